/-
The law SexpPrint tells true. Conditions: the cell of errors.errorType; the thing lies in memory; the text's length fits an int.
-/
import Derived.Test.YtdhfjaekhibaaaaDoorKno
import Derived.Test.YtdhfjaekhibaaaaDoorRpr
import Derived.Test.YtdhfjaekhibaaaaDoorRwd
import Derived.Test.YtdhfjaekhibaaaaDoorLgt
namespace Go.Proofs.YtdhfjaekhibaaaaDoor
set_option maxRecDepth 100000
open Go.RowKit Go.Proofs.YtdhfjaekhibaaaaDoorW.PrintWords Go.Proofs.YtdhfjaekhibaaaaDoorW.PrintLast

theorem Print_bV (x : Sx) (c : List Value) (w : World) (hc : RT w (fun k => k < w.heap.size) x c) (hlen : (pr x).length ≤ 140737488355328) :
    Calls Tryd.prog 15 #[.agg c.toArray] w fun e w' => e = .returned (.string (bV (pr x))) ∧ Below w.heap.size w w' := Print_any x c w hc hlen

set_option maxHeartbeats 4000000 in
theorem lawPrint (x : Sx) (c : List Value) (s : ByteArray) (w : World) (hs : s.size ≤ 9223372036854775807) (hc : RT w (fun k => k < w.heap.size) x c) (hE : EV w) :
    Calls Tryd.prog 4 #[.agg c.toArray, .string s] w fun e w' => e = .returned (.bool true) ∧ Below w.heap.size w w' := by
  obtain ⟨A, k, rfl, hk, hm, hws, hR⟩ := RT_cells hc
  have AC := Aside0.mk hc
  have AE := Aside0.mk hE
  clear hc hR hE
  go_enter Tryd.func4, Tryd.ntmps4
  go_wp2_with fail
  have hc0 : Cells (w.alloc (.cells #[.string x.word, .bool x.list, .slice A x.kids.length k] 35)) w.heap.size 35 [.string x.word, .bool x.list, .slice A x.kids.length k] := Cells.new _ _ _
  have hm0 : Mod (fun _ => False) w (w.alloc (.cells #[.string x.word, .bool x.list, .slice A x.kids.length k] 35)) := (Mod.refl _ _).alloc _
  generalize (w.alloc (.cells #[.string x.word, .bool x.list, .slice A x.kids.length k] 35)) = w0 at hc0 hm0 ⊢
  have AB := Aside0.mk hc0
  have AM0 := Aside0.mk hm0
  clear hc0 hm0
  refine (known_any w0 (AM0.out.cell AE.out)).mono ?_
  rintro e w1 ⟨rfl, hb1⟩
  have AM1 := Aside0.mk (Mod.step (Mod.refl (fun _ => False) w0) hb1)
  have hcw := AB.out.keep AM1.out (fun h => h)
  have q0 := hcw.cell 0 _ rfl
  have q1 := hcw.cell 1 _ rfl
  have q2 := hcw.cell 2 _ rfl
  clear hb1 hcw
  go_wp2_with fail
  refine (light_any _ x (Nat.le_refl _) [.string x.word, .bool x.list, .slice A x.kids.length k] 2000 300 _ ((AM0.out.trans AM1.out).RT AC.out) (by decide) (by decide) (by decide) (by decide)).mono ?_
  rintro e w2 ⟨⟨n, rfl, hn1, hn2, hn3⟩, hb2⟩
  have AM2 := Aside0.mk (AM1.out.step hb2)
  clear hb2 q0 q1 q2
  by_cases hn : n ≤ 2000
  · by_cases hg : 2000 < s.size
    · have g1 : (2000 : Int) < (s.size : Int) := by omega
      clear hn3
      go_wp2_with fail
      go_returns
      exact ⟨rfl, (AM0.out.trans AM2.out).below⟩
    · have g1 : (s.size : Int) ≤ 2000 := by omega
      have hw := hn3 hn
      have hp1 := pr_wt x
      have hp2 := sz_wt x
      have HP := Aside0.mk (show (pr x).length ≤ 140737488355328 by omega)
      have HZ := Aside0.mk (show sz x ≤ 1000000000000000000 by omega)
      clear hn3 hw hp1 hp2
      go_wp2_with fail
      refine wp_plan [(1, 0), (1, 2), (2, 1), (2, 3), (0, 4), (0, 5), (1, 6), (1, 8), (2, 7), (3, 9), (0, 10), (0, 11), (0, 12), (0, 13), (0, 15), (3, 14), (3, 16), (0, 17), (0, 18), (0, 19)]
        (fun w' => Mod (fun _ => False) w0 w') (by kernel_rfl) (by kernel_rfl) (fun _ _ d _ _ h => by cases d <;> exact h) AM2.out.drew ?_
      simp only [planOps, List.filterMap_cons, List.filterMap_nil, List.getElem?_toArray, List.getElem?_cons_zero, List.getElem?_cons_succ, Option.map_some]
      repeat (first
        | (refine' plan_pu _ (by rfl) (fun w' => ?_) ?_; rotate_left 1; (focus (go_simp; try (with_reducible rfl))); simp only [Act.put, List.setIfInBounds_toArray, List.set_cons_zero, List.set_cons_succ])
        | (refine' plan_ld _ (by rfl) (fun w' hSw => ?_) ?_; rotate_left 1; (focus ((try dsimp only at hSw); have hcw := AB.out.keep hSw (fun h => h); have q0 := hcw.cell 0 _ rfl; have q1 := hcw.cell 1 _ rfl; have q2 := hcw.cell 2 _ rfl; clear hcw; go_simp; try (with_reducible rfl))); simp only [Act.put, List.setIfInBounds_toArray, List.set_cons_zero, List.set_cons_succ]))
      refine plan_ef (fun K hK => ?_)
      go_simp
      refine (Print_bV x [.string x.word, .bool x.list, .slice A x.kids.length k] _ ((AM0.out.trans AM2.out.drew).RT AC.out) HP.out).mono ?_
      rintro e w3 ⟨rfl, hb3⟩
      have AM3 := Aside0.mk (AM2.out.drew.step hb3)
      refine hK.out _ _ AM3.out (fun _ => ?_)
      clear hK K hb3
      refine plan_ef (fun K hK => ?_)
      go_simp
      refine (rprint_any _ x (Nat.le_refl _) [.string x.word, .bool x.list, .slice A x.kids.length k] _ ((AM0.out.trans AM3.out).RT AC.out) HP.out).mono ?_
      rintro e w4 ⟨rfl, hb4⟩
      have AM4 := Aside0.mk (AM3.out.step hb4)
      refine hK.out _ _ AM4.out (fun _ => ?_)
      clear hK K hb4
      repeat (first
        | (refine' plan_pu _ (by rfl) (fun w' => ?_) ?_; rotate_left 1; (focus (go_simp; try (with_reducible rfl))); simp only [Act.put, List.setIfInBounds_toArray, List.set_cons_zero, List.set_cons_succ])
        | (refine' plan_ld _ (by rfl) (fun w' hSw => ?_) ?_; rotate_left 1; (focus ((try dsimp only at hSw); have hcw := AB.out.keep hSw (fun h => h); have q0 := hcw.cell 0 _ rfl; have q1 := hcw.cell 1 _ rfl; have q2 := hcw.cell 2 _ rfl; clear hcw; go_simp; try (with_reducible rfl))); simp only [Act.put, List.setIfInBounds_toArray, List.set_cons_zero, List.set_cons_succ]))
      refine plan_ef (fun K hK => ?_)
      go_simp
      refine (size_any _ x (Nat.le_refl _) [.string x.word, .bool x.list, .slice A x.kids.length k] _ ((AM0.out.trans AM4.out).RT AC.out) HZ.out).mono ?_
      rintro e w5 ⟨rfl, hb5⟩
      have AM5 := Aside0.mk (AM4.out.step hb5)
      refine hK.out _ _ AM5.out (fun _ => ?_)
      clear hK K hb5
      refine plan_fi (fun K hK => ?_)
      go_simp
      refine (rsize_any _ x (Nat.le_refl _) [.string x.word, .bool x.list, .slice A x.kids.length k] _ ((AM0.out.trans AM5.out).RT AC.out) HZ.out).mono ?_
      rintro e w6 ⟨rfl, hb6⟩
      have AM6 := Aside0.mk (AM5.out.step hb6)
      refine hK.out _ _ ?_
      clear hK K hb6
      repeat (first
        | (refine' plan_pu _ (by rfl) (fun w' => ?_) ?_; rotate_left 1; (focus (go_simp; try (with_reducible rfl))); simp only [Act.put, List.setIfInBounds_toArray, List.set_cons_zero, List.set_cons_succ]))
      refine plan_fi (fun K hK => ?_)
      go_simp
      refine (sword_any s _ hs).mono ?_
      rintro e w7 ⟨rfl, hb7⟩
      have AM7 := Aside0.mk (AM6.out.step hb7)
      refine hK.out _ _ ?_
      clear hK K hb7
      refine plan_fi (fun K hK => ?_)
      go_simp
      refine (rword_any s _ hs).mono ?_
      rintro e w8 ⟨rfl, n8, hw8⟩
      have AM8 := Aside0.mk (show Mod (fun _ => False) w0 w8 from hw8 ▸ AM7.out.drewN n8)
      refine hK.out _ _ ?_
      clear hK K hw8
      repeat (first
        | (refine' plan_pu _ (by rfl) (fun w' => ?_) ?_; rotate_left 1; (focus (go_simp; try (with_reducible rfl))); simp only [Act.put, List.setIfInBounds_toArray, List.set_cons_zero, List.set_cons_succ]))
      refine plan_nil ?_
      go_wp2_with fail
      go_returns
      exact ⟨rfl, (AM0.out.trans AM8.out).below⟩
  · have hn' : 2000 < n := by omega
    clear hn3
    go_wp2_with fail
    go_returns
    exact ⟨rfl, (AM0.out.trans AM2.out).below⟩
end Go.Proofs.YtdhfjaekhibaaaaDoor
