/-
The reference's Sort. Conditions: none.
-/
import Derived.Test.YthhnhbpmpdminaaGreatDoorNsp
namespace Go.Proofs.YthhnhbpmpdminaaGreatDoor
open Go.RowKit Go.Proofs.YthhnhbpmpdminaaGreatDoorW.PrintWords
set_option maxRecDepth 4096

set_option maxHeartbeats 4000000 in
theorem rSort_any (x : Sx) (c : List Value) (W : World) (hc : RT W (fun k => k < W.heap.size) x c) : Calls Tryz.prog 28 #[.agg c.toArray] W fun e W' => e = .returned (sortV 9 x) ∧ Below W.heap.size W W' := by
  obtain ⟨A, k, rfl, hk, hm, hws, hR⟩ := RT_cells hc
  have AR := Aside0.mk hR
  clear hc hR
  have hm0 : Mod (fun _ => False) W (W.alloc (.cells #[.string x.word, .bool x.list, .slice A x.kids.length k] 49)) := (Mod.refl _ _).alloc _
  have hc0 : Cells (W.alloc (.cells #[.string x.word, .bool x.list, .slice A x.kids.length k] 49)) W.heap.size 49 [.string x.word, .bool x.list, .slice A x.kids.length k] := Cells.new _ _ _
  have AM := Aside0.mk hm0
  have AC := Aside0.mk hc0
  clear hm0 hc0
  cases hx : x.list with
  | false =>
    have HL := Aside0.mk (sortR_leaf (most := 9) hx)
    have HB : Aside0 (isW x [66, 111, 111, 108] = (x.word.data.toList == [66, 111, 111, 108])) := ⟨by unfold isW; rw [hx]; rfl⟩
    rw [hx] at AM AC
    clear hx
    go_enter Tryz.func28, Tryz.ntmps28
    go_wp2_with fail
    all_goals (
      go_returns
      refine ⟨?_, AM.out.below⟩
      simp only [ByteArray.toList_eq] at *
      have hb := HB.out
      first
        | (rw [show sortV 9 x = .tuple #[.int .i64 0, .int .i64 0] by unfold sortV; rw [if_pos (by rw [hb]; simp_all)]]; rfl)
        | (rw [show sortV 9 x = srtE by unfold sortV; rw [if_neg (by rw [hb]; simp_all), HL.out]]; rfl))
  | true =>
    have HV : Aside0 (sortV 9 x = sortR 9 x) := ⟨by unfold sortV isW; rw [hx]; rfl⟩
    rw [hx] at AM AC
    by_cases h3 : x.kids.length = 3
    · have HS := Aside0.mk (sortR_three (most := 9) h3 hx)
      obtain ⟨ad, rfl⟩ : ∃ ad, A = some ad := by
        cases A with
        | none => have := RL_none AR.out; omega
        | some ad => exact ⟨ad, rfl⟩
      obtain ⟨A0, c0, ht0, z01, z02, z03⟩ := kid_at AR.out 0 (by omega)
      have hal : ∀ o, Mod (fun _ => False) W (W.alloc o) := fun o => (Mod.refl _ _).alloc o
      have T0 : ∀ o, Aside0 (RT (W.alloc o) (fun k => k < (W.alloc o).heap.size) x.kids[0] [.string x.kids[0].word, .bool x.kids[0].list, .slice A0 x.kids[0].kids.length c0]) := fun o => ⟨(hal o).RT ht0⟩
      have k3 : (x.kids.length : Int) = 3 := by omega
      have y01 : ∀ o, (W.alloc o).cell? ad = some (.string x.kids[0].word) := fun o => (hal o).cell z01
      have y02 : ∀ o, (W.alloc o).cell? ⟨ad.block, ad.off + 1, none⟩ = some (.bool x.kids[0].list) := fun o => (hal o).cell z02
      have y03 : ∀ o, (W.alloc o).cell? ⟨ad.block, ad.off + 2, none⟩ = some (.slice A0 x.kids[0].kids.length c0) := fun o => (hal o).cell z03
      clear ht0 hx z01 z02 z03 AM AC
      have HA := Aside0.mk hal
      clear hal
      go_enter Tryz.func28, Tryz.ntmps28
      go_wp2_with fail
      have hm0 : Mod (fun _ => False) W (W.alloc (.cells #[.string x.word, .bool true, .slice (some ad) 3 k] 49)) := HA.out _
      have hc0 : Cells (W.alloc (.cells #[.string x.word, .bool true, .slice (some ad) 3 k] 49)) W.heap.size 49 [.string x.word, .bool true, .slice (some ad) 3 k] := Cells.new _ _ _
      have ht0 := (T0 (.cells #[.string x.word, .bool true, .slice (some ad) 3 k] 49)).out
      generalize (W.alloc (.cells #[.string x.word, .bool true, .slice (some ad) 3 k] 49)) = w1 at hm0 hc0 ht0 ⊢
      clear y01 y02 y03 T0
      refine (rfis_any x.kids[0] _ ⟨#[95]⟩ w1 ht0).mono ?_
      rintro e w2 ⟨rfl, hB⟩
      have AM2 := Aside0.mk (hm0.trans (Mod.of_below hB))
      have q22 := (hc0.below hB).cell 2 _ rfl
      clear hB hm0 hc0 ht0
      cases hb0 : isW x.kids[0] [95] with
      | false =>
        have HS2 : Aside0 (sortR 9 x = srtE) := ⟨by rw [HS.out, hb0]; rfl⟩
        clear hb0
        go_wp2_with fail
        go_returns
        exact ⟨by rw [HV.out, HS2.out]; rfl, AM2.out.below⟩
      | true =>
        have B0 := Aside0.mk hb0
        clear hb0
        obtain ⟨A1, c1, ht1, z11, z12, z13⟩ := kid_at (AM2.out.RL AR.out) 1 (by omega)
        have T1 := Aside0.mk ht1
        have y11 : w2.cell? ⟨ad.block, ad.off + 3, none⟩ = some (.string x.kids[1].word) := z11
        have y12 : w2.cell? ⟨ad.block, ad.off + 3 + 1, none⟩ = some (.bool x.kids[1].list) := z12
        have y13 : w2.cell? ⟨ad.block, ad.off + 3 + 2, none⟩ = some (.slice A1 x.kids[1].kids.length c1) := z13
        clear ht1 z11 z12 z13
        go_wp2_with fail
        refine (rfis_any x.kids[1] _ ⟨#[66, 105, 116, 86, 101, 99]⟩ w2 T1.out).mono ?_
        rintro e w3 ⟨rfl, hB⟩
        have AM3 := Aside0.mk (AM2.out.trans (Mod.of_below hB))
        have q32 : w3.cell? ⟨W.heap.size, 2, none⟩ = some (.slice (some ad) 3 k) := (Mod.of_below (S := fun _ => False) hB).cell q22
        clear hB y11 y12 y13 q22
        cases hb1 : isW x.kids[1] [66, 105, 116, 86, 101, 99] with
        | false =>
          have HS2 : Aside0 (sortR 9 x = srtE) := ⟨by rw [HS.out, B0.out, hb1]; rfl⟩
          clear hb1
          go_wp2_with fail
          go_returns
          exact ⟨by rw [HV.out, HS2.out]; rfl, AM3.out.below⟩
        | true =>
          have B1 := Aside0.mk hb1
          clear hb1
          obtain ⟨A2, c2, ht2, z21, z22, z23⟩ := kid_at (AM3.out.RL AR.out) 2 (by omega)
          have HW : Aside0 (x.kids[2].word.size ≤ 9223372036854775807) := ⟨by obtain ⟨_, _, _, _, _, h, _⟩ := RT_cells ht2; exact h⟩
          have y21 : w3.cell? ⟨ad.block, ad.off + 6, none⟩ = some (.string x.kids[2].word) := z21
          have y22 : w3.cell? ⟨ad.block, ad.off + 6 + 1, none⟩ = some (.bool x.kids[2].list) := z22
          clear ht2 z21 z22 z23
          cases hl2 : x.kids[2].list with
          | true =>
            have HS2 : Aside0 (sortR 9 x = srtE) := ⟨by rw [HS.out, B0.out, B1.out, hl2]; rfl⟩
            rw [hl2] at y22
            clear hl2
            go_wp2_with fail
            go_returns
            exact ⟨by rw [HV.out, HS2.out]; rfl, AM3.out.below⟩
          | false =>
            have HS2 : Aside0 (sortR 9 x = srtN (numO 9 x.kids[2].word.data.toList)) := ⟨by rw [HS.out, B0.out, B1.out, hl2]; rfl⟩
            rw [hl2] at y22
            clear hl2
            go_wp2_with fail
            refine (Numeral_any x.kids[2].word w3 HW.out).mono ?_
            rintro e w4 ⟨rfl, rfl⟩
            clear y21 y22
            generalize numO 9 x.kids[2].word.data.toList = o at HS2 ⊢
            cases o with
            | none =>
              unfold numV
              go_wp2_with fail
              go_returns
              exact ⟨by rw [HV.out, HS2.out]; rfl, AM3.out.below⟩
            | some n =>
              unfold numV
              go_wp2_with fail
              all_goals (
                go_returns
                refine ⟨?_, AM3.out.below⟩
                rw [HV.out, HS2.out]
                unfold srtN
                simp only []
                first
                  | (rw [if_pos (by omega)]; done)
                  | (rw [if_neg (by omega)]; rfl)
                  | (rw [if_pos (by omega)]; rfl))
    · have HS := Aside0.mk (sortR_len (most := 9) h3)
      have n3 : ¬ (x.kids.length : Int) = 3 := by omega
      clear hx h3
      go_enter Tryz.func28, Tryz.ntmps28
      go_wp2_with fail
      go_returns
      exact ⟨by rw [HV.out, HS.out]; rfl, AM.out.below⟩
end Go.Proofs.YthhnhbpmpdminaaGreatDoor
