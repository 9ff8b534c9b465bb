/-
The program's Sort. Conditions: none.
-/
import Derived.Test.YthhnhbpmpdminaaGreatDoorNso
namespace Go.Proofs.YthhnhbpmpdminaaGreatDoor
open Go.RowKit Go.Proofs.YthhnhbpmpdminaaGreatDoorW.PrintWords
set_option maxRecDepth 4096

set_option maxHeartbeats 2000000 in
theorem Sort_any (x : Sx) (c : List Value) (W : World) (hc : RT W (fun k => k < W.heap.size) x c) : Calls Tryz.prog 27 #[.agg c.toArray] W fun e W' => e = .returned (sortV 3 x) ∧ Below W.heap.size W W' := by
  obtain ⟨A, k, rfl, hk, hm, hws, hR⟩ := RT_cells hc
  have HC := Aside0.mk hc
  have AR := Aside0.mk hR
  clear hc hR
  go_enter Tryz.func27, Tryz.ntmps27
  go_wp2_with fail
  have hm0 : Mod (fun _ => False) W (W.alloc (.cells #[.string x.word, .bool x.list, .slice A x.kids.length k] 49)) := (Mod.refl _ _).alloc _
  have hc0 : Cells (W.alloc (.cells #[.string x.word, .bool x.list, .slice A x.kids.length k] 49)) W.heap.size 49 [.string x.word, .bool x.list, .slice A x.kids.length k] := Cells.new _ _ _
  generalize (W.alloc (.cells #[.string x.word, .bool x.list, .slice A x.kids.length k] 49)) = w0 at hc0 hm0 ⊢
  refine (rdword_any x _ ⟨#[66, 111, 111, 108]⟩ w0 (hm0.RT HC.out)).mono ?_
  rintro e w1 ⟨rfl, hB⟩
  have AC := Aside0.mk (hc0.below hB)
  have AM := Aside0.mk (hm0.trans (Mod.of_below hB))
  clear hc0 hm0 hB
  cases hb : isW x [66, 111, 111, 108] with
  | true =>
    have HV : Aside0 (sortV 3 x = .tuple #[.int .i64 0, .int .i64 0]) := ⟨by unfold sortV; rw [if_pos hb]⟩
    clear hb
    go_wp2_with fail
    go_returns
    exact ⟨by rw [HV.out]; rfl, AM.out.below⟩
  | false =>
    have HV : Aside0 (sortV 3 x = sortR 3 x) := ⟨by unfold sortV; rw [if_neg (by rw [hb]; simp)]⟩
    clear hb
    have q1 := AC.out.cell 1 _ rfl
    have q2 := AC.out.cell 2 _ rfl
    cases hx : x.list with
    | false =>
      have HS := Aside0.mk (sortR_leaf (most := 3) hx)
      rw [hx] at q1
      clear hx
      go_wp2_with fail
      go_returns
      exact ⟨by rw [HV.out, HS.out]; rfl, AM.out.below⟩
    | true =>
      rw [hx] at q1
      by_cases h3 : x.kids.length = 3
      · have HS := Aside0.mk (sortR_three (most := 3) h3 hx)
        obtain ⟨ad, rfl⟩ : ∃ ad, A = some ad := by
          cases A with
          | none => have := RL_none AR.out; omega
          | some ad => exact ⟨ad, rfl⟩
        obtain ⟨A0, c0, ht0, z01, z02, z03⟩ := kid_at (AM.out.RL AR.out) 0 (by omega)
        have T0 := Aside0.mk ht0
        have H3 := Aside0.mk h3
        have k3 : (x.kids.length : Int) = 3 := by omega
        have y01 : w1.cell? ad = some (.string x.kids[0].word) := z01
        have y02 : w1.cell? ⟨ad.block, ad.off + 1, none⟩ = some (.bool x.kids[0].list) := z02
        have y03 : w1.cell? ⟨ad.block, ad.off + 2, none⟩ = some (.slice A0 x.kids[0].kids.length c0) := z03
        clear ht0 hx z01 z02 z03
        go_wp2_with fail
        refine (rdword_any x.kids[0] _ ⟨#[95]⟩ w1 T0.out).mono ?_
        rintro e w2 ⟨rfl, hB⟩
        have AM2 := Aside0.mk (AM.out.trans (Mod.of_below hB))
        have q22 := (AC.out.below hB).cell 2 _ rfl
        clear hB y01 y02 y03 q1 q2
        cases hb0 : isW x.kids[0] [95] with
        | false =>
          have HS2 : Aside0 (sortR 3 x = srtE) := ⟨by rw [HS.out, hb0]; rfl⟩
          clear hb0
          go_wp2_with fail
          go_returns
          exact ⟨by rw [HV.out, HS2.out]; rfl, AM2.out.below⟩
        | true =>
          have B0 := Aside0.mk hb0
          clear hb0
          obtain ⟨A1, c1, ht1, z11, z12, z13⟩ := kid_at (AM2.out.RL AR.out) 1 (by omega)
          have T1 := Aside0.mk ht1
          have y11 : w2.cell? ⟨ad.block, ad.off + 3, none⟩ = some (.string x.kids[1].word) := z11
          have y12 : w2.cell? ⟨ad.block, ad.off + 3 + 1, none⟩ = some (.bool x.kids[1].list) := z12
          have y13 : w2.cell? ⟨ad.block, ad.off + 3 + 2, none⟩ = some (.slice A1 x.kids[1].kids.length c1) := z13
          clear ht1 z11 z12 z13
          go_wp2_with fail
          refine (rdword_any x.kids[1] _ ⟨#[66, 105, 116, 86, 101, 99]⟩ w2 T1.out).mono ?_
          rintro e w3 ⟨rfl, hB⟩
          have AM3 := Aside0.mk (AM2.out.trans (Mod.of_below hB))
          have q32 : w3.cell? ⟨W.heap.size, 2, none⟩ = some (.slice (some ad) x.kids.length k) := (Mod.of_below (S := fun _ => False) hB).cell q22
          clear hB y11 y12 y13 q22
          cases hb1 : isW x.kids[1] [66, 105, 116, 86, 101, 99] with
          | false =>
            have HS2 : Aside0 (sortR 3 x = srtE) := ⟨by rw [HS.out, B0.out, hb1]; rfl⟩
            clear hb1
            go_wp2_with fail
            go_returns
            exact ⟨by rw [HV.out, HS2.out]; rfl, AM3.out.below⟩
          | true =>
            have B1 := Aside0.mk hb1
            clear hb1
            obtain ⟨A2, c2, ht2, z21, z22, z23⟩ := kid_at (AM3.out.RL AR.out) 2 (by omega)
            have T2 := Aside0.mk ht2
            have y21 : w3.cell? ⟨ad.block, ad.off + 6, none⟩ = some (.string x.kids[2].word) := z21
            have y22 : w3.cell? ⟨ad.block, ad.off + 6 + 1, none⟩ = some (.bool x.kids[2].list) := z22
            have y23 : w3.cell? ⟨ad.block, ad.off + 6 + 2, none⟩ = some (.slice A2 x.kids[2].kids.length c2) := z23
            clear ht2 z21 z22 z23
            go_wp2_with fail
            refine (numeral_any x.kids[2] _ w3 T2.out).mono ?_
            rintro e w4 ⟨rfl, hB⟩
            have AM4 := Aside0.mk (AM3.out.trans (Mod.of_below hB))
            clear hB y21 y22 y23 q32
            have HS2 : Aside0 (sortR 3 x = srtN (if x.kids[2].list then none else numO 3 x.kids[2].word.data.toList)) := ⟨by
              rw [HS.out, B0.out, B1.out]
              cases x.kids[2].list <;> rfl⟩
            generalize (if x.kids[2].list then none else numO 3 x.kids[2].word.data.toList) = o at HS2 ⊢
            cases o with
            | none =>
              unfold numV
              go_wp2_with fail
              go_returns
              exact ⟨by rw [HV.out, HS2.out]; rfl, AM4.out.below⟩
            | some n =>
              unfold numV
              go_wp2_with fail
              all_goals (
                go_returns
                refine ⟨?_, AM4.out.below⟩
                rw [HV.out, HS2.out]
                unfold srtN
                simp only []
                first
                  | (rw [if_pos (by omega)]; done)
                  | (rw [if_neg (by omega)]; rfl)
                  | (rw [if_pos (by omega)]; rfl))
      · have HS := Aside0.mk (sortR_len (most := 3) h3)
        have n3 : ¬ (x.kids.length : Int) = 3 := by omega
        clear hx h3
        go_wp2_with fail
        go_returns
        exact ⟨by rw [HV.out, HS.out]; rfl, AM.out.below⟩
end Go.Proofs.YthhnhbpmpdminaaGreatDoor
