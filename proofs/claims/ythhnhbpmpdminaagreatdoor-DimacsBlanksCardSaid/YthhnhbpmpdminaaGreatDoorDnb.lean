/-
dimacs' reader: a number. Conditions: the lists' lengths.
-/
import Derived.Test.YthhnhbpmpdminaaGreatDoorDpi
import Derived.Test.YthhnhbpmpdminaaGreatDoorScq
import Derived.Test.YthhnhbpmpdminaaGreatDoorLay0
import Derived.Test.YthhnhbpmpdminaaGreatDoorPru
namespace Go.Proofs.YthhnhbpmpdminaaGreatDoor
set_option maxRecDepth 4096
open Go.RowKit Go.Proofs.YthhnhbpmpdminaaGreatDoorW.PrintWords

def numberS (st : PS) (w : List UInt8) : Option PS :=
  if st.out.length = st.c then none else match numD (Lib.trimPrefix w [45]) with
    | none => none
    | some n => if st.v < n ∨ (Lib.hasPrefix w [45] = true ∧ n = 0) then none
      else if n = 0 then some { st with out := st.out ++ [st.now], now := [], half := false }
      else some { st with now := st.now ++ [if Lib.hasPrefix w [45] = true then -(n : Int) else (n : Int)], half := true }
def NumPost (B g : Nat) (w : World) (r : Option PS) (e : Ending) (w' : World) : Prop :=
  (match r with
   | none => e = .returned (.bool false)
   | some st' => e = .returned (.bool true) ∧ ∃ vc vo hs, PI w' B g st' vc vo hs) ∧ Below B w w' ∧ KS w w'
set_option maxHeartbeats 2000000 in
theorem number_any (B g : Nat) (st : PS) (vc vo : Value) (hs : List Value) (s : ByteArray) (w : World) (h : PI w B g st vc vo hs) (hB : B ≤ w.heap.size) (hs1 : s.size ≤ 1000000) (ho : st.out.length ≤ 1000000000000) (hn : st.now.length ≤ 1000000000000) :
    Calls Tryz.prog 107 #[.pointer (some ⟨g, 0, none⟩), .string s] w fun e w' => NumPost B g w (numberS st s.data.toList) e w' := by
  obtain ⟨A, cap, rfl⟩ : ∃ A cap, vc = .slice A st.out.length cap := by
    rcases h.row.2 with ⟨q, q2⟩ | ⟨g', cap, cur, q, _⟩
    · exact ⟨none, 0, by rw [q, q2]⟩
    · exact ⟨_, _, q⟩
  obtain ⟨Ao, co, rfl⟩ : ∃ Ao co, vo = .slice Ao st.now.length co := by
    rcases h.own.2 with ⟨q, q2⟩ | ⟨g', cap, cur, q, _⟩
    · exact ⟨none, 0, by rw [q, q2]⟩
    · exact ⟨_, _, q⟩
  have hc := h.cells
  unfold PS.cells at hc
  have H := Aside0.mk h
  clear h
  by_cases hoc : st.out.length = st.c
  · have hS : numberS st s.data.toList = none := by unfold numberS; rw [if_pos hoc]
    rw [hS]
    have hoc' : (st.out.length : Int) = (st.c : Int) := by omega
    clear hS
    go_enter Tryz.func107, Tryz.ntmps107
    go_wp2_with fail
    refine wp_plan [(0, 0), (0, 1), (0, 2), (1, 3), (0, 4), (0, 5), (0, 6), (0, 7), (1, 8), (0, 9)]
      (fun w' => Cells w' g 83 [.bool st.begun, .int .i64 (st.v : Int), .int .i64 (st.c : Int), .slice A st.out.length cap, .slice Ao st.now.length co, .bool st.half]) (by kernel_rfl) (by kernel_rfl) (fun _ _ d _ _ h => by cases d <;> exact h) hc.drew ?_
    simp only [planOps, List.filterMap_cons, List.filterMap_nil, List.getElem?_toArray, List.getElem?_cons_zero, List.getElem?_cons_succ, Option.map_some]
    repeat (first
      | (refine' plan_pu _ (by rfl) (fun w' => ?_) ?_; rotate_left 1; (focus (go_simp; try (with_reducible rfl))); simp only [Act.put, List.setIfInBounds_toArray, List.set_cons_zero, List.set_cons_succ])
      | (refine' plan_ld _ (by rfl) (fun w' hSw => ?_) ?_; rotate_left 1; (focus ((try dsimp only at hSw); have c1 := hSw.cell 2 _ rfl; have c2 := hSw.cell 3 _ rfl; go_simp; try (with_reducible rfl))); simp only [Act.put, List.setIfInBounds_toArray, List.set_cons_zero, List.set_cons_succ]))
    refine plan_nil ?_
    go_wp2_with fail
    go_returns
    exact ⟨rfl, (pw_below_drewN (Below.refl _ _) 1), KS.drewN 1⟩
  · have hoc' : ¬ (st.out.length : Int) = (st.c : Int) := by omega
    have HS : Aside0 (numberS st s.data.toList = match numD (Lib.trimPrefix s.data.toList [45]) with
      | none => none
      | some n => if st.v < n ∨ (Lib.hasPrefix s.data.toList [45] = true ∧ n = 0) then none
        else if n = 0 then some { st with out := st.out ++ [st.now], now := [], half := false }
        else some { st with now := st.now ++ [if Lib.hasPrefix s.data.toList [45] = true then -(n : Int) else (n : Int)], half := true }) := ⟨by unfold numberS; rw [if_neg hoc]⟩
    go_enter Tryz.func107, Tryz.ntmps107
    go_wp2_with fail
    refine wp_plan [(0, 0), (0, 1), (0, 2), (1, 3), (0, 4), (0, 5), (0, 6), (0, 7), (1, 8), (0, 9)]
      (fun w' => Cells w' g 83 [.bool st.begun, .int .i64 (st.v : Int), .int .i64 (st.c : Int), .slice A st.out.length cap, .slice Ao st.now.length co, .bool st.half]) (by kernel_rfl) (by kernel_rfl) (fun _ _ d _ _ h => by cases d <;> exact h) hc.drew ?_
    simp only [planOps, List.filterMap_cons, List.filterMap_nil, List.getElem?_toArray, List.getElem?_cons_zero, List.getElem?_cons_succ, Option.map_some]
    repeat (first
      | (refine' plan_pu _ (by rfl) (fun w' => ?_) ?_; rotate_left 1; (focus (go_simp; try (with_reducible rfl))); simp only [Act.put, List.setIfInBounds_toArray, List.set_cons_zero, List.set_cons_succ])
      | (refine' plan_ld _ (by rfl) (fun w' hSw => ?_) ?_; rotate_left 1; (focus ((try dsimp only at hSw); have c1 := hSw.cell 2 _ rfl; have c2 := hSw.cell 3 _ rfl; go_simp; try (with_reducible rfl))); simp only [Act.put, List.setIfInBounds_toArray, List.set_cons_zero, List.set_cons_succ]))
    refine plan_nil ?_
    go_wp2_with fail
    refine (cut_any s _).mono ?_
    rintro e w1 ⟨rfl, rfl⟩
    obtain ⟨d, hd⟩ : ∃ d : ByteArray, d = ⟨(Lib.trimPrefix s.data.toList [45]).toArray⟩ := ⟨_, rfl⟩
    have hdd : Lib.trimPrefix s.data.toList [45] = d.data.toList := by rw [hd]
    have hds : d.size ≤ 9223372036854775807 := by
      have : d.size = (Lib.trimPrefix s.data.toList [45]).length := by rw [hd]; simp [ByteArray.size]
      have h2 : (Lib.trimPrefix s.data.toList [45]).length ≤ s.data.toList.length := by
        unfold Lib.trimPrefix; split <;> simp
      have h3 : s.data.toList.length = s.size := by rw [Array.length_toList]; rfl
      omega
    rw [← hd]
    rw [hdd] at HS
    generalize Lib.hasPrefix s.data.toList [45] = tb at HS ⊢
    clear hdd hd
    go_wp2_with fail
    refine (digits_any d _ hds).mono ?_
    rintro e w2 ⟨rfl, hB2⟩
    have H2 := Aside0.mk ((H.out.drewN 1).below hB2)
    have HB2 := Aside0.mk ((pw_below_drewN (Below.refl B w) 1).trans (hB2.mono hB))
    have HK2 := Aside0.mk ((KS.drewN (w := w) 1).trans (KS.of_below hB2))
    have hB' : B ≤ w2.heap.size := Nat.le_trans hB hB2.size
    have hc2 := H2.out.cells
    unfold PS.cells at hc2
    clear hB2 hc
    cases hnd : numD d.data.toList with
    | none =>
      rw [hnd] at HS
      simp only [numW]
      go_wp2_with fail
      go_returns
      rw [HS.out]
      exact ⟨rfl, HB2.out, HK2.out⟩
    | some n =>
      rw [hnd] at HS
      simp only at HS
      simp only [numW]
      have q1 := hc2.cell 1 _ rfl
      have q3 := hc2.cell 3 _ rfl
      have q4 := hc2.cell 4 _ rfl
      have hdn : n < 1000000000 := by
        unfold numD at hnd
        split at hnd
        · rename_i hq
          unfold Lib.decNat at hnd
          split at hnd
          · cases hnd
          · have h1 := decFrom_lt _ _ _ hnd
            have h2 : 10 ^ d.data.toList.length ≤ 10 ^ 9 := Nat.pow_le_pow_right (by omega) hq.1
            rw [Nat.zero_add, Nat.one_mul] at h1
            have : (10 : Nat) ^ 9 = 1000000000 := by decide
            omega
        · cases hnd
      clear hnd
      by_cases hv : st.v < n
      · have hv' : (st.v : Int) < (n : Int) := by omega
        go_wp2_with fail
        go_returns
        rw [HS.out, if_pos (.inl hv)]
        exact ⟨rfl, HB2.out, HK2.out⟩
      · have hv' : ¬ (st.v : Int) < (n : Int) := by omega
        cases tb with
        | true =>
          by_cases h0 : n = 0
          · subst h0
            go_wp2_with fail
            go_returns
            rw [HS.out, if_pos (by simp)]
            exact ⟨rfl, HB2.out, HK2.out⟩
          · have h0' : ¬ (n : Int) = 0 := by omega
            have hS : numberS st s.data.toList = some { st with now := st.now ++ [-(n : Int)], half := true } := by
              rw [HS.out, if_neg (by rintro (q | ⟨_, q⟩); exact hv q; exact h0 q), if_neg h0]; rfl
            have HS2 := Aside0.mk hS
            clear hS HS
            go_wp2_with (at_builtin; (refine apl_at (w0 := w) _ B (.tmp 75) (.tmp 77) 61 3 (.int .i64 0) 1 8 (.slice Ao st.now.length co) st.now.length (numsI st.now) [.int .i64 (-(n : Int))] ⟨w2.heap.size, 0, none⟩ 1 rfl rfl (news_one (Cells.new w2 _ _)) Tryz.underlying61 Tryz.infoIntD rfl (by decide) (by decide) (by rfl) (by rfl) rfl (by simp [Value.oneCell']) (H2.out.own.alloc _) (HB2.out.alloc hB' _) (Nat.le_trans hB' (by simp)) (by omega) ?_; intro v1 w3 hown1 hB3 hg1 hat1; have HP := Aside0.mk ((H2.out.below ((Below.refl _ w2).alloc (Nat.le_refl _) (.cells #[.int .i64 (-(n : Int))] 3))).push (-(n : Int)) hg1 hown1 hat1); have hgc : Cells w3 g 83 (st.cells (.slice A st.out.length cap) (.slice Ao st.now.length co)) := (((H2.out.below ((Below.refl _ w2).alloc (Nat.le_refl _) (.cells #[.int .i64 (-(n : Int))] 3))).cells).grown hg1 (fun e => H2.out.own_ne e)); obtain ⟨b1, cap1, l1, rfl, hl1, _, _, _, _⟩ := own_row hown1 (by omega); unfold PS.cells at hgc; have e4 := hgc.cell 4 _ rfl; have e5 := hgc.cell 5 _ rfl; have f4 := hgc.frozen 4; have f5 := hgc.frozen 5; have HB3 := Aside0.mk hB3; have hgl := hgc.lt; have AG := Aside0.mk hgc; have HK3 := Aside0.mk (((HK2.out).trans (KS.alloc _)).trans (KS.grown (H2.out.own.alloc _) (by decide) hg1)); clear hown1 hB3 hg1 hat1 hgc))
            go_returns
            rw [HS2.out]
            exact ⟨⟨rfl, _, _, _, HP.out⟩, (HB3.out.setCell (H2.out.base) _).setCell (H2.out.base) _, (HK3.out.trans (KS.set AG.out (by decide) _ _)).trans (KS.set (AG.out.set _ _) (by decide) _ _)⟩
        | false =>
          by_cases h0 : n = 0
          · subst h0
            have hS : numberS st s.data.toList = some { st with out := st.out ++ [st.now], now := [], half := false } := by
              rw [HS.out, if_neg (by rintro (q | ⟨q, _⟩); exact hv q; cases q), if_pos rfl]
            have HS2 := Aside0.mk hS
            clear hS HS
            go_wp2_with fail
            refine wp_plan [(0, 0), (0, 1), (0, 2), (0, 3), (0, 5), (0, 6), (0, 7), (1, 4), (1, 8), (2, 9), (3, 10), (0, 11), (0, 12), (3, 13)]
              (fun w' => Cells w' g 83 [.bool st.begun, .int .i64 (st.v : Int), .int .i64 (st.c : Int), .slice A st.out.length cap, .slice Ao st.now.length co, .bool st.half]) (by kernel_rfl) (by kernel_rfl) (fun _ _ d _ _ h => by cases d <;> exact h) hc2.drew ?_
            simp only [planOps, List.filterMap_cons, List.filterMap_nil, List.getElem?_toArray, List.getElem?_cons_zero, List.getElem?_cons_succ, Option.map_some]
            repeat (first
              | (refine' plan_pu _ (by rfl) (fun w' => ?_) ?_; rotate_left 1; (focus (go_simp; try (with_reducible rfl))); simp only [Act.put, List.setIfInBounds_toArray, List.set_cons_zero, List.set_cons_succ])
              | (refine' plan_ld _ (by rfl) (fun w' hSw => ?_) ?_; rotate_left 1; (focus ((try dsimp only at hSw); have c1 := hSw.cell 3 _ rfl; have c2 := hSw.cell 4 _ rfl; go_simp; try (with_reducible rfl))); simp only [Act.put, List.setIfInBounds_toArray, List.set_cons_zero, List.set_cons_succ]))
            refine plan_ef (fun K hK => ?_)
            go_simp
            refine hK.out _ _ ((hc2.alloc _).drew) (fun _ => ?_)
            clear hK K
            try simp only [Act.put, List.setIfInBounds_toArray, List.set_cons_zero, List.set_cons_succ]
            refine plan_fi (fun K hK => ?_)
            refine ap_at (w0 := w) _ B (.tmp 52) (.tmp 57) 23 61 (.slice none 0 0) 1 24 (.slice A st.out.length cap) st.out.length hs [.slice Ao st.now.length co] ⟨w2.heap.size, 0, none⟩ 1 (news_one ((Cells.new w2.drew _ _).drew)) (by rfl) rfl Tryz.underlying23 Tryz.infoIntsD rfl (by decide) (by decide) (by rfl) (by simp [Act.eval]) rfl (by simp [Value.oneCell']) ((H2.out.row.alloc _).drew) ((HB2.out.alloc hB' _).drew) (by first | omega | (simp; omega)) (by omega) ?_
            intro v1 w3 hown1 hB3 hg1 hat1
            have HP := Aside0.mk ((H2.out.below (((Below.refl _ w2).alloc (Nat.le_refl _) (.cells #[.slice Ao st.now.length co] 61)).drew)).fin hg1 hown1 hat1)
            have hgc : Cells w3 g 83 (st.cells (.slice A st.out.length cap) (.slice Ao st.now.length co)) := (((H2.out.below (((Below.refl _ w2).alloc (Nat.le_refl _) (.cells #[.slice Ao st.now.length co] 61)).drew)).cells).grown hg1 (fun e => H2.out.row_ne e))
            obtain ⟨b1, cap1, l1, rfl, hl1, _, _, _, _⟩ := own_row hown1 (by omega)
            unfold PS.cells at hgc
            have e3 := hgc.cell 3 _ rfl
            have e4 := hgc.cell 4 _ rfl
            have e5 := hgc.cell 5 _ rfl
            have f3 := hgc.frozen 3
            have f4 := hgc.frozen 4
            have f5 := hgc.frozen 5
            have HB3 := Aside0.mk hB3
            have hgl := hgc.lt
            have AG := Aside0.mk hgc
            have HK3 := Aside0.mk (((HK2.out).trans ((KS.alloc _).trans KS.drew)).trans (KS.grown ((H2.out.row.alloc _).drew) (by decide) hg1))
            refine hK.out _ _ ?_
            clear hK K hown1 hB3 hg1 hat1 hgc
            repeat (first
              | (refine' plan_pu _ (by rfl) (fun w' => ?_) ?_; rotate_left 1; (focus (go_simp; try (with_reducible rfl))); simp only [Act.put, List.setIfInBounds_toArray, List.set_cons_zero, List.set_cons_succ]))
            refine plan_fi (fun K hK => ?_)
            go_simp
            refine hK.out _ _ (plan_nil ?_)
            clear hK K
            go_wp2_with fail
            go_returns
            rw [HS2.out]
            exact ⟨⟨rfl, _, _, _, HP.out⟩, ((HB3.out.setCell (H2.out.base) _).setCell (H2.out.base) _).setCell (H2.out.base) _, ((HK3.out.trans (KS.set AG.out (by decide) _ _)).trans (KS.set (AG.out.set _ _) (by decide) _ _)).trans (KS.set ((AG.out.set _ _).set _ _) (by decide) _ _)⟩
          · have h0' : ¬ (n : Int) = 0 := by omega
            have hS : numberS st s.data.toList = some { st with now := st.now ++ [(n : Int)], half := true } := by
              rw [HS.out, if_neg (by rintro (q | ⟨q, _⟩); exact hv q; cases q), if_neg h0]; rfl
            have HS2 := Aside0.mk hS
            clear hS HS
            go_wp2_with (at_builtin; (refine apl_at (w0 := w) _ B (.tmp 75) (.tmp 77) 61 3 (.int .i64 0) 1 8 (.slice Ao st.now.length co) st.now.length (numsI st.now) [.int .i64 ((n : Int))] ⟨w2.heap.size, 0, none⟩ 1 rfl rfl (news_one (Cells.new w2 _ _)) Tryz.underlying61 Tryz.infoIntD rfl (by decide) (by decide) (by rfl) (by rfl) rfl (by simp [Value.oneCell']) (H2.out.own.alloc _) (HB2.out.alloc hB' _) (Nat.le_trans hB' (by simp)) (by omega) ?_; intro v1 w3 hown1 hB3 hg1 hat1; have HP := Aside0.mk ((H2.out.below ((Below.refl _ w2).alloc (Nat.le_refl _) (.cells #[.int .i64 ((n : Int))] 3))).push ((n : Int)) hg1 hown1 hat1); have hgc : Cells w3 g 83 (st.cells (.slice A st.out.length cap) (.slice Ao st.now.length co)) := (((H2.out.below ((Below.refl _ w2).alloc (Nat.le_refl _) (.cells #[.int .i64 ((n : Int))] 3))).cells).grown hg1 (fun e => H2.out.own_ne e)); obtain ⟨b1, cap1, l1, rfl, hl1, _, _, _, _⟩ := own_row hown1 (by omega); unfold PS.cells at hgc; have e4 := hgc.cell 4 _ rfl; have e5 := hgc.cell 5 _ rfl; have f4 := hgc.frozen 4; have f5 := hgc.frozen 5; have HB3 := Aside0.mk hB3; have hgl := hgc.lt; have AG := Aside0.mk hgc; have HK3 := Aside0.mk (((HK2.out).trans (KS.alloc _)).trans (KS.grown (H2.out.own.alloc _) (by decide) hg1)); clear hown1 hB3 hg1 hat1 hgc))
            go_returns
            rw [HS2.out]
            exact ⟨⟨rfl, _, _, _, HP.out⟩, (HB3.out.setCell (H2.out.base) _).setCell (H2.out.base) _, (HK3.out.trans (KS.set AG.out (by decide) _ _)).trans (KS.set (AG.out.set _ _) (by decide) _ _)⟩
end Go.Proofs.YthhnhbpmpdminaaGreatDoor
