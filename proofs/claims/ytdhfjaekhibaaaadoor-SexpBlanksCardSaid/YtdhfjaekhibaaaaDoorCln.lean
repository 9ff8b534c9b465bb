/-
The law's clean: cleanB. Conditions: the thing lies in memory.
-/
import Derived.Test.YtdhfjaekhibaaaaDoorSam
import Derived.Test.YtdhfjaekhibaaaaDoorWrd
namespace Go.Proofs.YtdhfjaekhibaaaaDoor
set_option maxRecDepth 4096
open Go.RowKit Go.Proofs.YtdhfjaekhibaaaaDoorW.PrintWords Go.Proofs.YtdhfjaekhibaaaaDoorW.PrintLast

mutual
def cleanB : Nat → Sx → Bool
  | d, ⟨w, l, ks⟩ => if l then w.size == 0 && decide (1 ≤ d) && cleanL (d - 1) ks else ks.isEmpty && wordB w.data.toList
def cleanL : Nat → List Sx → Bool
  | _, [] => true
  | d, k :: r => cleanB d k && cleanL d r
end
theorem clean_word {d : Nat} {x : Sx} (h : x.list = false) : cleanB d x = (x.kids.isEmpty && wordB x.word.data.toList) := by
  cases x; simp at h; subst h; simp [cleanB]
theorem clean_list {d : Nat} {x : Sx} (h : x.list = true) : cleanB d x = (x.word.size == 0 && decide (1 ≤ d) && cleanL (d - 1) x.kids) := by
  cases x; simp at h; subst h; simp [cleanB]
theorem cleanL_append : ∀ (d : Nat) (a b : List Sx), cleanL d (a ++ b) = (cleanL d a && cleanL d b)
  | d, [], b => by simp [cleanL]
  | d, k :: r, b => by simp [cleanL, cleanL_append d r b, Bool.and_assoc]
theorem cleanL_succ (d : Nat) (l : List Sx) (i : Nat) (h : i < l.length) : cleanL d (l.take (i + 1)) = (cleanL d (l.take i) && cleanB d l[i]) := by
  rw [List.take_succ_eq_append_getElem h, cleanL_append]; simp [cleanL]
theorem cleanL_not (d : Nat) (l : List Sx) (i : Nat) (h : i < l.length) (hf : cleanB d l[i] = false) : cleanL d l = false := by
  have h1 := cleanL_append d (l.take (i + 1)) (l.drop (i + 1))
  rw [List.take_append_drop] at h1
  rw [h1, cleanL_succ d l i h, hf]; simp

set_option maxHeartbeats 1000000 in
theorem clean_any : ∀ (n : Nat) (x : Sx), x.dep ≤ n → ∀ (c : List Value) (d : Nat) (w : World), d ≤ 1000 → RT w (fun k => k < w.heap.size) x c →
    Calls Tryd.prog 21 #[.agg c.toArray, .int .i64 (d : Int)] w fun e w' => e = .returned (.bool (cleanB d x)) ∧ Below w.heap.size w w' := by
  intro n
  induction n with
  | zero => intro x hx; rw [Sx.dep_eq] at hx; omega
  | succ n ih =>
    intro x hx c d w hd hc
    obtain ⟨A, k, rfl, hk, hm, hws, hR⟩ := RT_cells hc
    have AR := Aside0.mk hR
    have AX := Aside0.mk hx
    clear hc hR hx
    cases hl : x.list with
    | false =>
      have hp := Aside0.mk (clean_word (d := d) hl)
      clear hl
      by_cases hk0 : x.kids.length = 0
      · have hki : Aside0 (x.kids.isEmpty = true) := ⟨by rw [List.isEmpty_iff]; exact List.length_eq_zero_iff.1 hk0⟩
        have z0 : ((x.kids.length : Int) == 0) = true := by rw [hk0]; rfl
        clear hk0
        go_enter Tryd.func21, Tryd.ntmps21
        go_wp2_with fail
        refine (sword_any x.word _ hws).mono ?_
        rintro e w1 ⟨rfl, hb⟩
        have HB := Aside0.mk ((((Mod.refl (fun _ => False) w).alloc _).step hb).below)
        clear hb
        go_wp2_with fail
        go_returns
        exact ⟨by rw [hp.out, hki.out]; rfl, HB.out⟩
      · have hki : Aside0 (x.kids.isEmpty = false) := ⟨by
          rw [List.isEmpty_eq_false_iff]; intro e; rw [e] at hk0; exact hk0 rfl⟩
        have z0 : ((x.kids.length : Int) == 0) = false := by rw [beq_eq_false_iff_ne]; omega
        clear hk0
        go_enter Tryd.func21, Tryd.ntmps21
        go_wp2_with fail
        go_returns
        exact ⟨by rw [hp.out, hki.out]; rfl, ((Mod.refl (fun _ => False) w).alloc _).below⟩
    | true =>
      have hp := Aside0.mk (clean_list (d := d) hl)
      clear hl
      by_cases hw0 : x.word.size = 0
      · have hwe : x.word.toList = [] := by rw [Lib.toList_data]; exact List.length_eq_zero_iff.1 (by rw [Array.length_toList]; exact hw0)
        by_cases hd0 : d = 0
        · have d1 : (d : Int) < 1 := by omega
          have HF : Aside0 (cleanB d x = false) := ⟨by rw [hp.out, hd0]; simp⟩
          clear hd0
          go_enter Tryd.func21, Tryd.ntmps21
          go_wp2_with fail
          go_returns
          exact ⟨by rw [HF.out]; rfl, ((Mod.refl (fun _ => False) w).alloc _).below⟩
        · have d1 : (1 : Int) ≤ (d : Int) := by omega
          have HC : Aside0 (cleanB d x = cleanL (d - 1) x.kids) := ⟨by rw [hp.out, hw0]; simp; omega⟩
          have HD : Aside0 (IntKind.i64.wrap ((d : Int) - 1) = ((d - 1 : Nat) : Int)) := ⟨by rw [IntWalk.i64_in _ (by omega)]; omega⟩
          have hb1 : (x.kids.length : Int) ≤ 9223372036854775807 := by omega
          clear hw0
          go_enter Tryd.func21, Tryd.ntmps21
          go_wp2_with fail
          have hc0 : Cells (w.alloc (.cells #[.string x.word, .bool true, .slice A x.kids.length k] 35)) w.heap.size 35 [.string x.word, .bool true, .slice A x.kids.length k] := Cells.new _ _ _
          have hm0 : Mod (fun _ => False) w (w.alloc (.cells #[.string x.word, .bool true, .slice A x.kids.length k] 35)) := (Mod.refl _ _).alloc _
          generalize (w.alloc (.cells #[.string x.word, .bool true, .slice A x.kids.length k] 35)) = w0 at hc0 hm0 ⊢
          have AC := Aside0.mk hc0
          have AM0 := Aside0.mk hm0
          clear hc0 hm0 hwe
          go_loopw [5] (fun v wr => ∃ i : Nat, i ≤ x.kids.length ∧ v = .int .i64 (i : Int) ∧ Aside0 (cleanL (d - 1) (x.kids.take i) = true) ∧ Aside0 (Mod (fun _ => False) w0 wr)) (fun v _ => x.kids.length - (intOf v).toNat)
          case atStart => exact ⟨0, Nat.zero_le _, rfl, ⟨by simp [cleanL]⟩, ⟨Mod.refl _ _⟩⟩
          case round =>
            obtain ⟨i, hi, rfl, AL, AM⟩ := hrel
            have q2 := (AC.out.keep AM.out (fun h => h)).cell 2 _ rfl
            by_cases hlt : i < x.kids.length
            · have i0 : (0 : Int) ≤ (i : Int) := by omega
              have i1 : (i : Int) < (x.kids.length : Int) := by omega
              obtain ⟨a1, B1, d1', rfl, hs1, ht1, -, z11, z12, z13⟩ := RL_kid ((AM0.out.trans AM.out).RL AR.out) i hlt
              have AT := Aside0.mk ht1
              have s1 := HD.out
              clear ht1
              go_wp2_with fail
              refine (ih x.kids[i] (by have := AX.out; rw [Sx.dep_eq] at this; have := Sx.depL_mem (List.getElem_mem hlt); omega) [.string x.kids[i].word, .bool x.kids[i].list, .slice B1 x.kids[i].kids.length d1'] (d - 1) _ (by omega) AT.out).mono ?_
              rintro e w2 ⟨rfl, hb⟩
              cases hcl : cleanB (d - 1) x.kids[i] with
              | true =>
                have HCL := Aside0.mk hcl
                clear hcl
                go_wp2_with fail
                go_roundw
                case rel => exact ⟨i + 1, by omega, by go_num, ⟨by rw [cleanL_succ _ _ _ hlt, AL.out, HCL.out]; rfl⟩, ⟨AM.out.step hb⟩⟩
                case measure => simp [intOf]; omega
              | false =>
                have HCL := Aside0.mk hcl
                clear hcl
                go_wp2_with fail
                go_returns
                exact ⟨by rw [HC.out, cleanL_not _ _ _ hlt HCL.out]; rfl, (AM0.out.trans (AM.out.step hb)).below⟩
            · have i1 : (x.kids.length : Int) ≤ (i : Int) := by omega
              have hall : i = x.kids.length := by omega
              have HA := Aside0.mk (show cleanL (d - 1) x.kids = true by have := AL.out; rw [hall, List.take_length] at this; exact this)
              clear hall
              go_wp2_with fail
              go_returns
              exact ⟨by rw [HC.out, HA.out]; rfl, (AM0.out.trans AM.out).below⟩
      · have hwe : ¬ x.word.toList = [] := by
          rw [Lib.toList_data]; intro e
          have := congrArg List.length e
          rw [Array.length_toList] at this
          exact hw0 this
        have HF : Aside0 (cleanB d x = false) := ⟨by rw [hp.out, show (x.word.size == 0) = false by rw [beq_eq_false_iff_ne]; exact hw0]; rfl⟩
        clear hw0
        go_enter Tryd.func21, Tryd.ntmps21
        go_wp2_with fail
        go_returns
        exact ⟨by rw [HF.out]; rfl, ((Mod.refl (fun _ => False) w).alloc _).below⟩
end Go.Proofs.YtdhfjaekhibaaaaDoor
