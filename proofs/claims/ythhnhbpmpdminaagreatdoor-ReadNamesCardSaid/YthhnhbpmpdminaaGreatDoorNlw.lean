/-
The law ReadNames, walked. Conditions: the lengths of what is handed over can be counted by an int.
-/
import Derived.Test.YthhnhbpmpdminaaGreatDoorNsr
import Derived.Test.YthhnhbpmpdminaaGreatDoorAkq
import Derived.Test.YthhnhbpmpdminaaGreatDoorLgty
namespace Go.Proofs.YthhnhbpmpdminaaGreatDoor
open Go.RowKit Go.Proofs.YthhnhbpmpdminaaGreatDoorW.PrintWords
set_option maxRecDepth 4096

theorem rdName_any (s : ByteArray) (W : World) (hs : s.size ≤ 9223372036854775807) : Calls Tryz.prog 29 #[.string s] W fun e W' => e = .returned (.bool (nameB s.data.toList)) ∧ Below W.heap.size W W' := by
  go_enter Tryz.func29, Tryz.ntmps29
  go_wp2_with fail
  refine (Name_any s W hs).mono ?_
  rintro e w1 ⟨rfl, hB⟩
  have HB := Aside0.mk hB
  clear hB
  go_wp2_with fail
  go_returns
  exact ⟨rfl, HB.out⟩
set_option maxHeartbeats 4000000 in
theorem lawNames (s : ByteArray) (x : Sx) (c : List Value) (W : World) (hs : s.size ≤ 9223372036854775807) (hc : RT W (fun k => k < W.heap.size) x c) : Calls Tryz.prog 7 #[.string s, .agg c.toArray] W fun e W' => e = .returned (.bool true) ∧ Below W.heap.size W W' := by
  obtain ⟨A, k, rfl, hk, hm, hws, hR⟩ := RT_cells hc
  have HC := Aside0.mk hc
  clear hc hR
  go_enter Tryz.func7, Tryz.ntmps7
  go_wp2_with fail
  have hm0 : Mod (fun _ => False) W (W.alloc (.cells #[.string x.word, .bool x.list, .slice A x.kids.length k] 49)) := (Mod.refl _ _).alloc _
  have hc0 : Cells (W.alloc (.cells #[.string x.word, .bool x.list, .slice A x.kids.length k] 49)) W.heap.size 49 [.string x.word, .bool x.list, .slice A x.kids.length k] := Cells.new _ _ _
  generalize (W.alloc (.cells #[.string x.word, .bool x.list, .slice A x.kids.length k] 49)) = w0 at hc0 hm0 ⊢
  refine (Ab.known5 w0).mono ?_
  rintro e w1 ⟨rfl, hB⟩
  have AC1 := Aside0.mk (hc0.below hB)
  have AM1 := Aside0.mk (hm0.trans (Mod.of_below hB))
  clear hc0 hm0 hB
  by_cases h5 : s.size ≤ 500
  · have i5 : (s.size : Int) ≤ 500 := by omega
    have q10 := AC1.out.cell 0 _ rfl
    have q11 := AC1.out.cell 1 _ rfl
    have q12 := AC1.out.cell 2 _ rfl
    go_wp2_with fail
    refine (light_any x.dep x (Nat.le_refl _) _ 200 100 w1 (AM1.out.RT HC.out) (by omega) (by omega) (by omega) (by omega)).mono ?_
    rintro e w2 ⟨⟨n, rfl, hn1, hn2, hn3⟩, hB⟩
    have AC2 := Aside0.mk (AC1.out.below hB)
    have AM2 := Aside0.mk (AM1.out.trans (Mod.of_below hB))
    clear hB hn3 q10 q11 q12
    by_cases hn : n ≤ 200
    · have q20 := AC2.out.cell 0 _ rfl
      have q21 := AC2.out.cell 1 _ rfl
      have q22 := AC2.out.cell 2 _ rfl
      go_wp2_with fail
      refine (Sort_any x _ w2 (AM2.out.RT HC.out)).mono ?_
      rintro e w3 ⟨rfl, hB⟩
      have AC3 := Aside0.mk (AC2.out.below hB)
      have AM3 := Aside0.mk (AM2.out.trans (Mod.of_below hB))
      clear hB q20 q21 q22
      obtain ⟨a, b, hab⟩ : ∃ a b : Int, sortV 9 x = .tuple #[.int .i64 a, .int .i64 b] := by
        unfold sortV sortR srtN srtE
        repeat' split
        all_goals exact ⟨_, _, rfl⟩
      rw [sortV_eq, hab]
      have HV := Aside0.mk hab
      clear hab
      have q30 := AC3.out.cell 0 _ rfl
      have q31 := AC3.out.cell 1 _ rfl
      have q32 := AC3.out.cell 2 _ rfl
      go_wp2_with fail
      refine (rSort_any x _ w3 (AM3.out.RT HC.out)).mono ?_
      rintro e w4 ⟨rfl, hB⟩
      have AM4 := Aside0.mk (AM3.out.trans (Mod.of_below hB))
      clear hB q30 q31 q32
      rw [HV.out]
      go_wp2_with fail
      refine (rdName_any s w4 hs).mono ?_
      rintro e w5 ⟨rfl, hB⟩
      have AM5 := Aside0.mk (AM4.out.trans (Mod.of_below hB))
      clear hB
      go_wp2_with fail
      refine (rName_any s w5 hs).mono ?_
      rintro e w6 ⟨rfl, hB⟩
      have AM6 := Aside0.mk (AM5.out.trans (Mod.of_below hB))
      clear hB
      generalize nameB s.data.toList = nb
      cases nb <;> (
        go_wp2_with fail
        go_returns
        exact ⟨by simp, AM6.out.below⟩)
    · have hn' : 200 < n := by omega
      clear hn
      go_wp2_with fail
      go_returns
      exact ⟨rfl, AM2.out.below⟩
  · have i5 : 500 < (s.size : Int) := by omega
    clear h5
    go_wp2_with fail
    go_returns
    exact ⟨rfl, AM1.out.below⟩
end Go.Proofs.YthhnhbpmpdminaaGreatDoor
