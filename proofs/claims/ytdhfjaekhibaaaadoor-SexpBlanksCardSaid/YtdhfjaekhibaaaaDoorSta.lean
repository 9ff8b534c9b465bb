/-
One step of the reader, whatever the byte. Conditions: the text's length.
-/
import Derived.Test.YtdhfjaekhibaaaaDoorOpn
namespace Go.Proofs.YtdhfjaekhibaaaaDoor
set_option maxRecDepth 4096
open Go.RowKit Go.Proofs.YtdhfjaekhibaaaaDoorW.PrintWords

def StepOut (base g : Nat) (s : ByteArray) (w' : World) (e : Ending) : Except (Nat × Nat) PSt → Prop
  | .ok q => e = .returned .nilIface ∧ ∃ S', RS w' base g s q.i q.lists q.begs S'
  | .error (a, n) => ∃ v, e = .returned v ∧ ErrV w' v a n

theorem step_any (base g : Nat) (s : ByteArray) (p : PSt) (b : UInt8) (S : Nat → Nat → Prop) (w : World) (h : RS w base g s p.i p.lists p.begs S) (hp : p.Ok s.data.toList) (hb : s.data.toList[p.i]? = some b) (hs : s.size ≤ 65536) (hbase : base ≤ w.heap.size) :
    Calls Tryd.prog 26 #[.pointer (some ⟨g, 0, none⟩), .int .u8 (b.toNat : Int)] w fun e w' => StepOut base g s w' e (pstep s.data.toList p b) ∧ Below base w w' := by
  have hl : s.data.toList.length = s.size := by rw [Array.length_toList]; rfl
  have hi : p.i < s.size := by have := (List.getElem?_eq_some_iff.1 hb).1; omega
  have hdeep := hp.deep
  have hcur := hp.cur
  have hle : p.i ≤ 65536 := by omega
  unfold pstep
  by_cases h0 : blankB b = true
  · rw [if_pos h0]
    exact (step_blank base g s p.i b p.lists p.begs S w h hi (by omega) h0 hbase).mono fun e w' ⟨h1, h2, h3⟩ => ⟨⟨h1, S, h2⟩, h3⟩
  rw [if_neg h0]
  have h0' : blankB b = false := by simpa using h0
  by_cases h1 : b = 59
  · subst h1
    rw [if_pos (by rfl)]
    exact (step_remark base g s p.i p.lists p.begs S w h hi (by omega) hbase).mono fun e w' ⟨h1, h2, h3⟩ => ⟨⟨h1, S, h2⟩, h3⟩
  rw [if_neg (by simpa using h1)]
  by_cases h2 : b = 40
  · subst h2
    rw [if_pos (by rfl)]
    have hbl : p.begs.length = p.stk.length := by simp [PSt.begs]
    by_cases hd : p.stk.length = 200
    · rw [if_pos hd]
      exact (open_deep base g s p.i p.lists p.begs S w h (by omega) hbase).mono fun e w' ⟨h1, h3⟩ => ⟨h1, h3⟩
    · rw [if_neg hd]
      refine (open_some base g s p.i p.lists p.begs S w h (by omega) (by omega) (by simp [PSt.lists]; omega) hbase).mono fun e w' ⟨h1, ⟨S', h2⟩, h3⟩ => ⟨⟨h1, S', ?_⟩, h3⟩
      simpa [PSt.lists, PSt.begs] using h2
  rw [if_neg (by simpa using h2)]
  by_cases h3 : b = 41
  · subst h3
    rw [if_pos (by rfl)]
    obtain ⟨i, cur, stk⟩ := p
    cases stk with
    | nil => exact (close_none base g s i _ S w (by simpa [PSt.begs] using h) hbase).mono fun e w' ⟨h1, h3⟩ => ⟨h1, h3⟩
    | cons x r =>
      obtain ⟨q, l⟩ := x
      have hl1 := hp.all (q, l) (by simp)
      simp at hl1 hle hdeep
      refine (close_some base g s i (r.map (·.2)).reverse l cur (r.map (·.1)).reverse q S w (by simpa [PSt.lists, PSt.begs] using h) (by simp) (by omega) (by omega) (by simp; omega) hbase).mono fun e w' ⟨h1, ⟨S', h2⟩, h3⟩ => ⟨⟨h1, S', ?_⟩, h3⟩
      simpa [PSt.lists, PSt.begs] using h2
  rw [if_neg (by simpa using h3)]
  have hj : ∀ j, s.data.toList[j]? = some 124 ↔ ∃ h : j < s.size, s[j] = 124 := fun j => by
    constructor
    · intro hh
      obtain ⟨hlt, e⟩ := List.getElem?_eq_some_iff.1 hh
      exact ⟨by omega, e⟩
    · rintro ⟨hlt, e⟩
      exact List.getElem?_eq_some_iff.2 ⟨by omega, e⟩
  have hLs : ((p.stk.map (·.2)).reverse).length ≤ 1000 := by simp; omega
  by_cases h4 : b = 124
  · subst h4
    rw [if_pos (by rfl)]
    by_cases hbar : s.data.toList[scan notBar s.data.toList (p.i + 1)]? = some 124
    · rw [if_pos hbar]
      obtain ⟨hjs, he⟩ := (hj _).1 hbar
      exact (step_bar_yes base g s p.i _ _ p.cur p.begs S w h hi (by omega) rfl hjs he (by omega) hLs hbase).mono fun e w' ⟨h1, ⟨S', h2⟩, h3⟩ => ⟨⟨h1, S', h2⟩, h3⟩
    · rw [if_neg hbar]
      exact (step_bar_no base g s p.i _ p.lists p.begs S w h hi (by omega) rfl (fun hh he => hbar ((hj _).2 ⟨hh, he⟩)) hbase).mono fun e w' ⟨h1, h3⟩ => ⟨h1, h3⟩
  rw [if_neg (by simpa using h4)]
  by_cases h5 : plainB b = true
  · rw [if_pos h5]
    exact (step_word base g s p.i _ b _ p.cur p.begs S w h hi (by omega) rfl h0' h1 h2 h3 h4 h5 (by omega) hLs hbase).mono fun e w' ⟨h1, ⟨S', h2⟩, h3⟩ => ⟨⟨h1, S', h2⟩, h3⟩
  · rw [if_neg h5]
    exact (step_bad base g s p.i b p.lists p.begs S w h h0' h1 h2 h3 h4 (by simpa using h5) hbase).mono fun e w' ⟨h1, h3⟩ => ⟨h1, h3⟩
end Go.Proofs.YtdhfjaekhibaaaaDoor
