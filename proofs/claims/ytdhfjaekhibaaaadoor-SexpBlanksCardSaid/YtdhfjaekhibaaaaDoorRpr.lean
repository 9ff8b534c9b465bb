/-
The reference's Print tells a thing's text. Conditions: the text's length.
-/
import Derived.Test.YtdhfjaekhibaaaaDoorPrn
namespace Go.Proofs.YtdhfjaekhibaaaaDoor
set_option maxRecDepth 4096
open Go.RowKit Go.Shelf Go.Proofs.YtdhfjaekhibaaaaDoorW.PrintWords Go.Proofs.YtdhfjaekhibaaaaDoorW.PrintLast

def bV (l : List UInt8) : ByteArray := ⟨l.toArray⟩
theorem bV_size (l : List UInt8) : (bV l).size = l.length := by simp [bV, ByteArray.size]
theorem bV_append (a b : List UInt8) : bV a ++ bV b = bV (a ++ b) := by
  apply ByteArray.ext
  apply Array.ext'
  simp [bV]
theorem bV_data (b : ByteArray) : bV b.data.toList = b := by
  apply ByteArray.ext
  apply Array.ext'
  simp [bV]

set_option maxHeartbeats 1000000 in
theorem rprint_any : ∀ (n : Nat) (x : Sx), x.dep ≤ n → ∀ (c : List Value) (w : World), RT w (fun k => k < w.heap.size) x c → (pr x).length ≤ 140737488355328 →
    Calls Tryd.prog 16 #[.agg c.toArray] w fun e w' => e = .returned (.string (bV (pr x))) ∧ Below w.heap.size w w' := by
  intro n
  induction n with
  | zero => intro x hx; rw [Sx.dep_eq] at hx; omega
  | succ n ih =>
    intro x hx c w hc hlen
    obtain ⟨A, k, rfl, hk, hm, hws, hR⟩ := RT_cells hc
    have AR := Aside0.mk hR
    have AX := Aside0.mk hx
    clear hc hR hx
    cases hl : x.list with
    | false =>
      have hp := Aside0.mk (pr_word hl)
      clear hl hlen
      go_enter Tryd.func16, Tryd.ntmps16
      go_wp2_with fail
      go_returns
      exact ⟨by rw [hp.out, bV_data]; rfl, ((Mod.refl (fun _ => False) w).alloc _).below⟩
    | true =>
      have hp := Aside0.mk (pr_list hl)
      rw [pr_list hl] at hlen
      simp at hlen
      clear hl
      go_enter Tryd.func16, Tryd.ntmps16
      go_wp2_with fail
      have hb1 : (x.kids.length : Int) ≤ 9223372036854775807 := by omega
      have hc0 : Cells (w.alloc (.cells #[.string x.word, .bool true, .slice A x.kids.length k] 35)) w.heap.size 35 [.string x.word, .bool true, .slice A x.kids.length k] := Cells.new _ _ _
      have hm0 : Mod (fun _ => False) w (w.alloc (.cells #[.string x.word, .bool true, .slice A x.kids.length k] 35)) := (Mod.refl _ _).alloc _
      generalize (w.alloc (.cells #[.string x.word, .bool true, .slice A x.kids.length k] 35)) = w0 at hc0 hm0 ⊢
      have AC := Aside0.mk hc0
      have AM0 := Aside0.mk hm0
      clear hc0 hm0
      go_loopw [3, 4] (fun v3 v wr => ∃ i : Nat, i ≤ x.kids.length ∧ v = .int .i64 (i : Int) ∧ v3 = .string (bV (40 :: prL (x.kids.take i))) ∧ Aside0 (Mod (fun _ => False) w0 wr)) (fun _ v _ => x.kids.length - (intOf v).toNat)
      case atStart => exact ⟨0, Nat.zero_le _, rfl, by simp [prL, bV], ⟨Mod.refl _ _⟩⟩
      case round =>
        obtain ⟨i, hi, rfl, rfl, AM⟩ := hrel
        have q2 := (AC.out.keep AM.out (fun h => h)).cell 2 _ rfl
        have hle0 := prL_take x.kids i
        by_cases hlt : i < x.kids.length
        · have i0 : (0 : Int) ≤ (i : Int) := by omega
          have i1 : (i : Int) < (x.kids.length : Int) := by omega
          obtain ⟨a1, B1, d1, rfl, hs1, ht1, -, z11, z12, z13⟩ := RL_kid ((AM0.out.trans AM.out).RL AR.out) i hlt
          have AT := Aside0.mk ht1
          have hle := prL_take x.kids (i + 1)
          clear ht1
          by_cases hz : i = 0
          · have e1 : prL (x.kids.take (i + 1)) = pr x.kids[i] := by subst hz; exact prL_zero x.kids hlt
            have e0 : prL (x.kids.take i) = [] := by subst hz; simp [prL]
            rw [e1] at hle
            have E1 := Aside0.mk e1
            have E0 := Aside0.mk e0
            have hneg : (i : Int) ≤ 0 := by omega
            have hsum : (bV (40 :: prL (x.kids.take i))).size + (bV (pr x.kids[i])).size ≤ 9223372036854775807 := by
              rw [bV_size, bV_size, e0]; simp; omega
            clear e1 e0 hz
            go_wp2_with fail
            refine (ih x.kids[i] (by have := AX.out; rw [Sx.dep_eq] at this; have := Sx.depL_mem (List.getElem_mem hlt); omega) [.string x.kids[i].word, .bool x.kids[i].list, .slice B1 x.kids[i].kids.length d1] _ AT.out (by omega)).mono ?_
            rintro e w2 ⟨rfl, hb⟩
            go_wp2_with fail
            go_roundw
            case rel => exact ⟨i + 1, by omega, by go_num, by rw [bV_append, E1.out, E0.out]; rfl, ⟨AM.out.step hb⟩⟩
            case measure => simp [intOf]; omega
          · have e1 := prL_succ x.kids i hlt (by omega)
            rw [e1] at hle
            simp at hle
            have E1 := Aside0.mk e1
            have hpos : (0 : Int) < (i : Int) := by omega
            have hsum1 : (bV (40 :: prL (x.kids.take i))).size + 1 ≤ 9223372036854775807 := by
              rw [bV_size]; simp; omega
            have hsum : (bV (40 :: prL (x.kids.take i)) ++ ⟨#[32]⟩).size + (bV (pr x.kids[i])).size ≤ 9223372036854775807 := by
              rw [show (⟨#[32]⟩ : ByteArray) = bV [32] from rfl, bV_append, bV_size, bV_size]; simp; omega
            clear e1 hz
            go_wp2_with fail
            refine (ih x.kids[i] (by have := AX.out; rw [Sx.dep_eq] at this; have := Sx.depL_mem (List.getElem_mem hlt); omega) [.string x.kids[i].word, .bool x.kids[i].list, .slice B1 x.kids[i].kids.length d1] _ AT.out (by omega)).mono ?_
            rintro e w2 ⟨rfl, hb⟩
            go_wp2_with fail
            go_roundw
            case rel => exact ⟨i + 1, by omega, by go_num, by rw [show (⟨#[32]⟩ : ByteArray) = bV [32] from rfl, bV_append, bV_append, E1.out]; simp, ⟨AM.out.step hb⟩⟩
            case measure => simp [intOf]; omega
        · have i1 : (x.kids.length : Int) ≤ (i : Int) := by omega
          have hall : i = x.kids.length := by omega
          have hsum1 : (bV (40 :: prL (x.kids.take i))).size + 1 ≤ 9223372036854775807 := by
            rw [bV_size]; simp; omega
          subst hall
          rw [List.take_length] at hsum1 ⊢
          go_wp2_with fail
          go_returns
          exact ⟨by rw [hp.out, show (40 :: (prL x.kids ++ [41])) = (40 :: prL x.kids) ++ [41] from rfl, ← bV_append]; rfl, (AM0.out.trans AM.out).below⟩
end Go.Proofs.YtdhfjaekhibaaaaDoor
