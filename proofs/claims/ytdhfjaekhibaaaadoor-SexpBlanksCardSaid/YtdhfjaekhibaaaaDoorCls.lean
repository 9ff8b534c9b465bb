/-
One step of the reader: a closing bracket. Conditions: the lists' lengths.
-/
import Derived.Test.YtdhfjaekhibaaaaDoorStp
import Derived.IntWalk
namespace Go.Proofs.YtdhfjaekhibaaaaDoor
set_option maxRecDepth 4096
open Go.RowKit Go.Proofs.YtdhfjaekhibaaaaDoorW.PrintWords

set_option maxHeartbeats 1000000 in
theorem close_none (base g : Nat) (s : ByteArray) (i : Nat) (Ls : List (List Sx)) (S : Nat → Nat → Prop) (w : World)
    (h : RS w base g s i Ls [] S) (hbase : base ≤ w.heap.size) :
    Calls Tryd.prog 26 #[.pointer (some ⟨g, 0, none⟩), .int .u8 41] w fun e w' => (∃ v, e = .returned v ∧ ErrV w' v i 21) ∧ Below base w w' := by
  obtain ⟨vo, vb, vs, hg, hgb, hst, hbs⟩ := h
  obtain ⟨A, c, rfl⟩ : ∃ A c, vb = .slice A 0 c := by
    rcases hbs.2 with ⟨h, _⟩ | ⟨g', cap, cur, h, _⟩
    · exact ⟨_, _, h⟩
    · exact ⟨_, _, h⟩
  have h1 := hg.cell 1 _ rfl
  have h3 := hg.cell 3 _ rfl
  clear hst hbs
  go_enter Tryd.func26, Tryd.ntmps26
  go_wp2_with fail
  refine (blank_any.calls 41 _).mono ?_
  rintro e w1 ⟨rfl, n1, rfl⟩
  rw [show blankB 41 = false from rfl]
  go_wp2_with fail
  refine (wrong_any (i : Int) 21 _).mono ?_
  rintro e w3 ⟨rfl, rfl⟩
  go_wp2_with fail
  go_returns
  exact ⟨⟨_, rfl, _, rfl, Cells.new (w.drewN n1) _ _⟩, (pw_below_drewN (Below.refl _ _) n1).alloc hbase _⟩

set_option maxHeartbeats 1600000 in
theorem close_some (base g : Nat) (s : ByteArray) (i : Nat) (Ls : List (List Sx)) (L' L : List Sx) (bs : List Nat) (q : Nat) (S : Nat → Nat → Prop) (w : World)
    (h : RS w base g s i (Ls ++ [L'] ++ [L]) (bs ++ [q]) S) (hlen : Ls.length = bs.length) (hi : i ≤ 100000) (hL : L'.length ≤ 100000) (hLs : Ls.length ≤ 1000) (hbase : base ≤ w.heap.size) :
    Calls Tryd.prog 26 #[.pointer (some ⟨g, 0, none⟩), .int .u8 41] w fun e w' => e = .returned .nilIface ∧ (∃ S', RS w' base g s (i + 1) (Ls ++ [L' ++ [listSx L]]) bs S') ∧ Below base w w' := by
  obtain ⟨vo0, vb0, hg0, hgb0⟩ := h.cells
  have h10 := hg0.cell 1 _ rfl
  have HS := Aside0.mk h
  have AL := Aside0.mk hlen
  clear h hlen
  go_enter Tryd.func26, Tryd.ntmps26
  go_wp2_with fail
  refine (blank_any.calls 41 _).mono ?_
  rintro e W ⟨rfl, n1, hW⟩
  rw [show blankB 41 = false from rfl]
  have h := HS.out.drewN n1
  have hB0 : Below base w W := hW ▸ pw_below_drewN (Below.refl _ _) n1
  rw [← hW] at h
  have hbaseW : base ≤ W.heap.size := Nat.le_trans hbase hB0.size
  have hlen := AL.out
  clear hW HS hg0 hgb0 h10 hbase
  obtain ⟨vo, vb, vs, hg, hgb, hst, hbs⟩ := h
  have hvl : vs.length = bs.length + 2 := by rw [hst.len]; simp [hlen]
  obtain ⟨bo, capo, lo, rfl, hlo, hbo, hno, htake, hcapo⟩ := own_row hst.row (by simp)
  obtain ⟨bb, capb, lb, rfl, hlb, hbb, hnb, htakeb, hcapb⟩ := own_row hbs (by simp)
  rw [show (Ls ++ [L'] ++ [L]).length = bs.length + 2 by simp [hlen]] at hst hno htake hg
  rw [show (bs ++ [q]).length = bs.length + 1 by simp] at hbs hnb htakeb hg
  obtain ⟨v, hv⟩ : ∃ v, vs[bs.length + 1]? = some v := ⟨_, List.getElem?_eq_getElem (by omega)⟩
  have hlov : lo[bs.length + 1]? = some v := by
    rw [← htake, List.getElem?_take, if_pos (by omega)] at hv; exact hv
  have hLst := hst.each (bs.length + 1) L v (by rw [List.getElem?_append_right (by simp [hlen])]; simp [hlen]) hv
  obtain ⟨Av, cv, rfl, hcv, hcv2, hRL⟩ := hLst.reads
  have hgbo : g ≠ bo := by rintro rfl; exact absurd (hg.ty hlo).1 (by decide)
  have hgbb : g ≠ bb := by rintro rfl; exact absurd (hg.ty hlb).1 (by decide)
  have h1 := hg.cell 1 _ rfl
  have h2 := hg.cell 2 _ rfl
  have h3 := hg.cell 3 _ rfl
  have ho := hlo.cell _ _ hlov
  have hgl := hg.lt
  have b0 : (0 : Int) ≤ (bs.length : Int) := by omega
  have b1 : (0 : Int) ≤ (bs.length : Int) + 1 := by omega
  have b2 : (bs.length : Int) + 1 < (bs.length : Int) + 2 := by omega
  have b3 : (bs.length : Int) + 1 ≤ (capo : Int) := by omega
  have b4 : (bs.length : Int) ≤ (capb : Int) := by omega
  have AS := Aside0.mk hst
  have AB := Aside0.mk hbs
  have AR := Aside0.mk hRL
  clear hst hbs hRL hlen htake htakeb hv hlov hvl hLst
  go_wp2_with fail
  refine wp_plan [(0, 0), (0, 1), (0, 2), (0, 3), (0, 4), (0, 6), (0, 7), (0, 9), (0, 10), (0, 11), (0, 13), (1, 5), (0, 8), (1, 12), (0, 14), (0, 15), (0, 16), (3, 17), (0, 18), (0, 19), (3, 20)]
    (fun w' => Cells w' g 54 [.string s, .int .i64 (i : Int), .slice (some ⟨bo, 0, none⟩) (bs.length + 2) capo, .slice (some ⟨bb, 0, none⟩) (bs.length + 1) capb]) (by kernel_rfl) (by kernel_rfl) (fun _ _ d _ _ h => by cases d <;> exact h) (hg.alloc _).drew ?_
  simp only [planOps, List.filterMap_cons, List.filterMap_nil, List.getElem?_toArray, List.getElem?_cons_zero, List.getElem?_cons_succ, Option.map_some]
  have f2 := hg.frozen 2
  have f3 := hg.frozen 3
  have s1 : IntKind.i64.wrap ((bs.length : Int) + 1) = (bs.length : Int) + 1 := IntWalk.i64_in _ (by omega)
  have s2 : ((bs.length : Int) + 1).toNat = bs.length + 1 := by omega
  repeat (first
    | (refine' plan_pu _ (by rfl) (fun w' => ?_) ?_; rotate_left 1; (focus (go_simp; try (with_reducible rfl))); simp only [Act.put, List.setIfInBounds_toArray, List.set_cons_zero, List.set_cons_succ])
    | (refine' plan_ld _ (by rfl) (fun w' hSw => ?_) ?_; rotate_left 1; (focus ((try dsimp only at hSw); have c1 := hSw.cell 2 _ rfl; have c2 := hSw.cell 3 _ rfl; go_simp; try (with_reducible rfl))); simp only [Act.put, List.setIfInBounds_toArray, List.set_cons_zero, List.set_cons_succ]))
  refine plan_fi (fun K hK => ?_)
  go_simp
  refine hK.out _ _ ?_
  clear hK K
  repeat (first
    | (refine' plan_pu _ (by rfl) (fun w' => ?_) ?_; rotate_left 1; (focus (go_simp; try (with_reducible rfl))); simp only [Act.put, List.setIfInBounds_toArray, List.set_cons_zero, List.set_cons_succ]))
  refine plan_fi (fun K hK => ?_)
  go_simp
  refine hK.out _ _ (plan_nil ?_)
  clear hK K s1 s2
  go_wp2_with fail
  have hW : ∃ W2, W2 = (((W.setCell ⟨g, 2, none⟩ (.slice (some ⟨bo, 0, none⟩) (bs.length + 1) capo)).setCell ⟨g, 3, none⟩ (.slice (some ⟨bb, 0, none⟩) bs.length capb)).alloc (.cells #[.string ⟨#[]⟩, .bool true, .slice Av L.length cv] 35)).drew := ⟨_, rfl⟩
  obtain ⟨W2, hW⟩ := hW
  rw [← hW]
  have hm : Mod (fun k => k = g) W W2 := by
    rw [hW]
    exact (((Mod.setCell (p := ⟨g, 2, none⟩) (Mod.refl (fun k => k = g) W) (.inl rfl) _).setCell (p := ⟨g, 3, none⟩) (.inl rfl) _).alloc _).drew
  have hg2 : Cells W2 g 54 [.string s, .int .i64 (i : Int), .slice (some ⟨bo, 0, none⟩) (bs.length + 1) capo, .slice (some ⟨bb, 0, none⟩) bs.length capb] := by
    rw [hW]
    exact (((hg.set 2 _).set 3 _).alloc _).drew
  clear hW
  have hll : (Ls ++ [L']).length = bs.length + 1 := by simp [AL.out]
  have hpop := AS.out.pop
  rw [hll] at hpop
  have hst2 := hpop.keepT hm (fun k _ hk => ⟨_, _, hk ▸ hg, by decide, by decide⟩)
  have hbs2 : W2.ownsRow base 3 1 (.slice (some ⟨bb, 0, none⟩) bs.length capb) bs.length (numsN bs) := by
    have := own_take AB.out (m := bs.length) (by omega)
    rw [show (numsN (bs ++ [q])).take (bs.length * 1) = numsN bs by simp [numsN]] at this
    exact own_keep this hm (fun k hk e => own_ne_cells this hg (by decide) (e ▸ hk))
  have hRS2 : RS W2 base g s i (Ls ++ [L']) bs S := ⟨_, _, _, hg2, hgb, hst2, hbs2⟩
  have hnl : bs.length + 1 < (Ls ++ [L'] ++ [L]).length := by simp [AL.out]
  have hTy : ∀ k, S (bs.length + 1) k → base ≤ k ∧ ∃ l, Cells W2 k 35 l := fun k hk => by
    obtain ⟨hb, l, hl⟩ := AS.out.typed _ k hnl hk
    exact ⟨hb, l, hl.keep hm (fun e => absurd (e ▸ hl : Cells W g 35 l) (fun q => absurd (q.ty hg).1 (by decide)))⟩
  have hRT : RT W2 (S (bs.length + 1)) (listSx L) [.string ⟨#[]⟩, .bool true, .slice Av L.length cv] :=
    RT_mk (listSx L) hcv hcv2 (by simp [listSx, ByteArray.size]) (RL_move (fun k hk => by
      obtain ⟨_, l, hl⟩ := AS.out.typed _ k hnl hk
      exact hm.keep k hl.lt (fun e => absurd (e ▸ hl : Cells W g 35 l) (fun q => absurd (q.ty hg).1 (by decide)))) (fun _ hk => hk) L Av 0 AR.out)
  have hBW := hB0.trans (hm.belowB (B := base) (fun k hk => hk ▸ hgb) hbaseW)
  refine (lays_any base g s i Ls L' bs S (listSx L) _ (S (bs.length + 1)) W2 hRS2 hRT (fun k hk => ⟨(hTy k hk).1, (hTy k hk).2, fun i' hi' hk' => by
    have := AS.out.disj (bs.length + 1) i' k hnl (by simp; omega) hk hk'
    rw [AL.out] at hi'; omega⟩) hL hLs (Nat.le_trans hbaseW hm.size)).mono ?_
  rintro e w3 ⟨rfl, ⟨S', hR⟩, hB⟩
  obtain ⟨vo3, vb3, hg3, _⟩ := hR.cells
  have HR := Aside0.mk hR
  have HT := Aside0.mk hTy
  clear hR hTy hst2 hbs2 hRS2 hpop hRT hll hg2
  have k1 := hg3.cell 1 _ rfl
  have kf1 := hg3.frozen 1
  go_wp2_with fail
  go_returns
  have hm3 : Mod (fun k => k = g) w3 (w3.setCell ⟨g, 1, none⟩ (.int .i64 ((i + 1 : Nat) : Int))) := Mod.setCell (p := ⟨g, 1, none⟩) (Mod.refl (fun k => k = g) w3) (.inl rfl) _
  exact ⟨rfl, ⟨S', HR.out.keep hm3 (fun _ _ q => Cells.set q 1 _)⟩, (hBW.trans hB).trans (hm3.belowB (fun k hk => hk ▸ hgb) (Nat.le_trans hbaseW (Nat.le_trans hm.size hB.size)))⟩
end Go.Proofs.YtdhfjaekhibaaaaDoor
