/-
term: Make. Conditions: the graph in memory.
-/
import Derived.Test.YthhnhbpmpdminaaGreatDoorGsw
namespace Go.Proofs.YthhnhbpmpdminaaGreatDoor
set_option maxRecDepth 4096
set_option maxHeartbeats 8000000
set_option linter.unusedSimpArgs false
set_option linter.unusedVariables false
set_option linter.unnecessarySimpa false
open Go.RowKit Go.Proofs.YthhnhbpmpdminaaGreatDoorW.PrintWords Go.Maps
theorem Tryz.infoNode : (Tryz.prog.info? 112).map (fun i => (i.zero, i.size, i.bytes)) = some (some (.agg nd0.cells.toArray), 11, 96) := by kernel_rfl
theorem GI.keep2 {w w' : World} {B g bi bn : Nat} {G : Gr} {vn : Value} (h : GI w B g G vn bi bn) {S : Nat → Prop} (hm : Mod S w w') (h1 : ¬ S g) (h2 : ¬ S bi) (h3 : ¬ S bn) (h4 : ∀ k, vn.ownBlock = some k → ¬ S k) : GI w' B g G vn bi bn := by
  obtain ⟨D, hD, hI⟩ := h.ids
  obtain ⟨D', hD', hN⟩ := h.names
  exact ⟨h.cells.keep hm h1, h.base, h.most, h.len, own_keep h.row hm h4, h.wf, h.vars, ⟨D, gmap_heap hD (hm.keep bi hD.lt h2), hI⟩, ⟨D', gmap_heap hD' (hm.keep bn hD'.lt h3), hN⟩, h.ibase, h.nbase, h.ne⟩
theorem GI.g_lt {w : World} {B g bi bn : Nat} {G : Gr} {vn : Value} (h : GI w B g G vn bi bn) : g < w.heap.size ∧ bi < w.heap.size ∧ bn < w.heap.size := by
  obtain ⟨D, hD, _⟩ := h.ids
  obtain ⟨D', hD', _⟩ := h.names
  exact ⟨h.cells.lt, hD.lt, hD'.lt⟩
theorem node_store {w : World} {g0 : Nat} {x : Nd} (h : Cells w g0 112 x.cells) (y : Nd) : ∃ w3, (((((((((((w.setCell ⟨g0, 0, none⟩ (.int .i64 y.op)).setCell ⟨g0, 1, none⟩ (.int .i64 y.sort)).setCell ⟨g0, 2, none⟩ (.int .i64 y.a)).setCell ⟨g0, 3, none⟩ (.int .i64 y.b)).setCell ⟨g0, 4, none⟩ (.int .i64 y.c)).setCell ⟨g0, 5, none⟩ (.int .i64 y.p)).setCell ⟨g0, 6, none⟩ (.int .i64 y.q)).setCell ⟨g0, 7, none⟩ (.int .i64 y.w)).setCell ⟨g0, 8, none⟩ (.int .u64 y.lo)).setCell ⟨g0, 9, none⟩ (.int .u64 y.hi)).setCell ⟨g0, 10, none⟩ (.string y.name)) = w3 ∧ Cells w3 g0 112 y.cells ∧ Mod (fun k => k = g0) w w3 :=
  ⟨_, rfl, (((((((((((h.set 0 (.int .i64 y.op)).set 1 (.int .i64 y.sort)).set 2 (.int .i64 y.a)).set 3 (.int .i64 y.b)).set 4 (.int .i64 y.c)).set 5 (.int .i64 y.p)).set 6 (.int .i64 y.q)).set 7 (.int .i64 y.w)).set 8 (.int .u64 y.lo)).set 9 (.int .u64 y.hi)).set 10 (.string y.name)), ((((((((((((Mod.refl (fun k => k = g0) w).setCell (p := ⟨g0, 0, none⟩) (.inl rfl) (.int .i64 y.op)).setCell (p := ⟨g0, 1, none⟩) (.inl rfl) (.int .i64 y.sort)).setCell (p := ⟨g0, 2, none⟩) (.inl rfl) (.int .i64 y.a)).setCell (p := ⟨g0, 3, none⟩) (.inl rfl) (.int .i64 y.b)).setCell (p := ⟨g0, 4, none⟩) (.inl rfl) (.int .i64 y.c)).setCell (p := ⟨g0, 5, none⟩) (.inl rfl) (.int .i64 y.p)).setCell (p := ⟨g0, 6, none⟩) (.inl rfl) (.int .i64 y.q)).setCell (p := ⟨g0, 7, none⟩) (.inl rfl) (.int .i64 y.w)).setCell (p := ⟨g0, 8, none⟩) (.inl rfl) (.int .u64 y.lo)).setCell (p := ⟨g0, 9, none⟩) (.inl rfl) (.int .u64 y.hi)).setCell (p := ⟨g0, 10, none⟩) (.inl rfl) (.string y.name))⟩
theorem var_of {l : List Nd} {x : Nd} (hf : formedV l.length x = true) (hs : (sortedV l x).2 = 0) : VarOk (sortedV l x).1 := by
  intro ho
  obtain ⟨_, h2, h3⟩ := sorted_name l x
  rw [h2] at ho
  rw [h3 ho]
  unfold formedV at hf
  simp only [Bool.and_eq_true] at hf
  obtain ⟨⟨⟨⟨⟨k1, k2⟩, k3⟩, _⟩, k5⟩, _⟩ := hf
  have ha : arityV x.op = 0 := by rw [ho]; rfl
  rw [ha] at k1 k2 k3
  unfold okOp at k1 k2 k3
  rw [if_neg (by omega)] at k1 k2 k3
  have k5 : x.w = 0 ∧ x.lo = 0 ∧ x.hi = 0 := by
    rw [ho] at k5
    simp at k5
    exact ⟨k5.1.1, k5.1.2, k5.2⟩
  unfold sortedV at hs
  rw [if_neg (by omega), if_pos ho] at hs
  by_cases hc : isSort x.sort = false ∨ x.p ≠ 0 ∨ x.q ≠ 0
  · rw [if_pos hc] at hs; simp at hs
  · exact ⟨by simpa using k1, by simpa using k2, by simpa using k3, Classical.byContradiction fun q => hc (.inr (.inl q)), Classical.byContradiction fun q => hc (.inr (.inr q)), k5.1, k5.2.1, k5.2.2⟩
/-- A variable that is not there has a name that is not there. -/
theorem var_new {l : List Nd} {x : Nd} (hv : ∀ z ∈ l, VarOk z) (hf : formedV l.length x = true) (hs : (sortedV l x).2 = 0) (h0 : ix l (sortedV l x).1 = 0) (ho : (sortedV l x).1.op = 2) : nix l (sortedV l x).1.name = 0 := by
  have hy := var_of hf hs ho
  obtain ⟨h1, h2, h3⟩ := sorted_name l x
  rw [h2] at ho
  have e := h3 ho
  rw [e] at h0 hy ⊢
  cases hn : nix l x.name with
  | zero => rfl
  | succ k =>
    exfalso
    obtain ⟨z, hz, zo, zn⟩ := nix_get hn
    have hzm := List.mem_of_getElem? hz
    unfold sortedV at hs
    rw [if_neg (by omega), if_pos ho] at hs
    by_cases hc : isSort x.sort = false ∨ x.p ≠ 0 ∨ x.q ≠ 0
    · rw [if_pos hc] at hs; simp at hs
    · rw [if_neg hc] at hs
      by_cases hd : x.name.size = 0 ∨ (0 < nix l x.name ∧ sortAt l (nix l x.name : Int) ≠ x.sort)
      · rw [if_pos hd] at hs; simp at hs
      · have hso : z.sort = x.sort := Classical.byContradiction fun q => hd (.inr ⟨by omega, by rw [hn, nodeSort hz]; exact q⟩)
        obtain ⟨z1, z2, z3, z4, z5, z6, z7, z8⟩ := hv z hzm zo
        obtain ⟨y1, y2, y3, y4, y5, y6, y7, y8⟩ := hy
        have : z = x := by cases z; cases x; simp_all
        exact ix_zero.1 h0 (this ▸ hzm)
def MkPost (w : World) (B g bi bn : Nat) (r : (Nat × Int) × Gr) (e : Ending) (w' : World) : Prop :=
  e = .returned (.tuple #[.int .i64 (r.1.1 : Int), .int .i64 r.1.2]) ∧ (∃ vn', GI w' B g r.2 vn' bi bn) ∧ (KG B g bi bn w w' ∧ NK g bi bn w w') ∧ Below B w w'
set_option maxHeartbeats 40000000 in
theorem Make_any (B g bi bn : Nat) (G : Gr) (vn : Value) (x : Nd) (w : World) (h : GI w B g G vn bi bn) (hBw : B ≤ w.heap.size) (hx : x.Wf) :
    Calls Tryz.prog 72 #[.pointer (some ⟨g, 0, none⟩), .agg x.cells.toArray] w fun e w' => MkPost w B g bi bn (mk G x) e w' := by
  obtain ⟨A, cap, rfl, hc1, hc2⟩ := h.form
  obtain ⟨R, hR⟩ : ∃ b, mk G x = b := ⟨_, rfl⟩
  rw [hR]
  unfold mk at hR
  have HR := Aside0.mk hR
  clear hR
  have HX := Aside0.mk hx
  have HL := Aside0.mk h.g_lt
  have HV := Aside0.mk (own_lt_size h.row)
  have HZ := Aside0.mk h.row_gz
  have HOW := Aside0.mk h.own_gy
  have HGY := Aside0.mk h.gy_gz
  obtain ⟨w0, hw0⟩ : ∃ w0, w.alloc (.cells x.cells.toArray 112) = w0 := ⟨_, rfl⟩
  have HC3 : Aside0 (Cells w0 w.heap.size 112 x.cells) := ⟨by rw [← hw0]; exact Cells.new w _ _⟩
  have HB : Aside0 (Below w.heap.size w w0) := ⟨by rw [← hw0]; exact (Below.refl _ w).alloc (Nat.le_refl _) _⟩
  have HG := Aside0.mk (h.below HB.out)
  have e0 : w0 = w.alloc (.cells #[.int .i64 x.op, .int .i64 x.sort, .int .i64 x.a, .int .i64 x.b, .int .i64 x.c, .int .i64 x.p, .int .i64 x.q, .int .i64 x.w, .int .u64 x.lo, .int .u64 x.hi, .string x.name] 112) := hw0.symm
  have y0 := HC3.out.cell 0 _ rfl
  have y1 := HC3.out.cell 1 _ rfl
  have y2 := HC3.out.cell 2 _ rfl
  have y3 := HC3.out.cell 3 _ rfl
  have y4 := HC3.out.cell 4 _ rfl
  have y5 := HC3.out.cell 5 _ rfl
  have y6 := HC3.out.cell 6 _ rfl
  have y7 := HC3.out.cell 7 _ rfl
  have y8 := HC3.out.cell 8 _ rfl
  have y9 := HC3.out.cell 9 _ rfl
  have y10 := HC3.out.cell 10 _ rfl
  clear h hx hw0
  unfold Nd.cells
  go_enter Tryz.func72, Tryz.ntmps72
  go_upto_region 1 with (fail)
  rw [← e0]
  clear e0
  go_wp2_with fail
  refine (formed_any B g bi bn G _ x w0 HG.out).mono ?_
  rintro e w1 ⟨rfl, hB⟩
  have HC4 := Aside0.mk (HC3.out.below hB)
  have HG1 := Aside0.mk (HG.out.below hB)
  have HB1 := Aside0.mk (HB.out.trans (hB.mono HB.out.size))
  clear hB HC3 y0 y1 y2 y3 y4 y5 y6 y7 y8 y9 y10 HG HB
  obtain ⟨b, hb⟩ : ∃ b, formedV G.l.length x = b := ⟨_, rfl⟩
  rw [hb]
  have HF := Aside0.mk hb
  clear hb
  cases b
  · have hR := HR.out
    rw [if_pos HF.out] at hR
    subst hR
    go_wp2_with fail
    go_returns
    exact ⟨rfl, ⟨_, HG1.out⟩, ⟨KG.of_below HB1.out, NK.of_below HL.out.1 HB1.out⟩, HB1.out.mono hBw⟩
  · have hR := HR.out
    rw [if_neg (by rw [HF.out]; simp)] at hR
    have HR := Aside0.mk hR
    clear hR
    have y0 := HC4.out.cell 0 _ rfl
    have y1 := HC4.out.cell 1 _ rfl
    have y2 := HC4.out.cell 2 _ rfl
    have y3 := HC4.out.cell 3 _ rfl
    have y4 := HC4.out.cell 4 _ rfl
    have y5 := HC4.out.cell 5 _ rfl
    have y6 := HC4.out.cell 6 _ rfl
    have y7 := HC4.out.cell 7 _ rfl
    have y8 := HC4.out.cell 8 _ rfl
    have y9 := HC4.out.cell 9 _ rfl
    have y10 := HC4.out.cell 10 _ rfl
    go_wp2_with fail
    refine (sorted_any B g bi bn G _ x w1 HG1.out HX.out HF.out).mono ?_
    rintro e w2 ⟨rfl, hB⟩
    have HC5 := Aside0.mk (HC4.out.below hB)
    have HG2 := Aside0.mk (HG1.out.below hB)
    have HB2 := Aside0.mk (HB1.out.trans (hB.mono HB1.out.size))
    clear hB HC4 y0 y1 y2 y3 y4 y5 y6 y7 y8 y9 y10 HG1 HB1
    obtain ⟨y, hy⟩ : ∃ y, (sortedV G.l x).1 = y := ⟨_, rfl⟩
    obtain ⟨er, her⟩ : ∃ y, (sortedV G.l x).2 = y := ⟨_, rfl⟩
    have HYW : Aside0 y.Wf := ⟨by rw [← hy]; exact sorted_wf HX.out⟩
    have hR := HR.out
    rw [hy, her] at hR ⊢
    have HR := Aside0.mk hR
    have HY := Aside0.mk hy
    have HEE := Aside0.mk her
    clear hR hy her
    unfold Nd.cells
    have y0 := HC5.out.cell 0 _ rfl
    have y1 := HC5.out.cell 1 _ rfl
    have y2 := HC5.out.cell 2 _ rfl
    have y3 := HC5.out.cell 3 _ rfl
    have y4 := HC5.out.cell 4 _ rfl
    have y5 := HC5.out.cell 5 _ rfl
    have y6 := HC5.out.cell 6 _ rfl
    have y7 := HC5.out.cell 7 _ rfl
    have y8 := HC5.out.cell 8 _ rfl
    have y9 := HC5.out.cell 9 _ rfl
    have y10 := HC5.out.cell 10 _ rfl
    have f0 := HC5.out.frozen 0
    have f1 := HC5.out.frozen 1
    have f2 := HC5.out.frozen 2
    have f3 := HC5.out.frozen 3
    have f4 := HC5.out.frozen 4
    have f5 := HC5.out.frozen 5
    have f6 := HC5.out.frozen 6
    have f7 := HC5.out.frozen 7
    have f8 := HC5.out.frozen 8
    have f9 := HC5.out.frozen 9
    have f10 := HC5.out.frozen 10
    go_upto_region 4 with (fail)
    obtain ⟨w3, e3, hC6, hM3⟩ := node_store HC5.out y
    rw [e3]
    have HC6 := Aside0.mk hC6
    have HG3 : Aside0 (GI w3 B g G (.slice A G.l.length cap) bi bn) := ⟨HG2.out.keep2 hM3 (by have := HL.out; omega) (by have := HL.out; omega) (by have := HL.out; omega) (fun k hk q => by have := HV.out k hk; omega)⟩
    have HB3 : Aside0 (Below w.heap.size w w3) := ⟨HB2.out.trans (hM3.belowB (fun k q => by omega) HB2.out.size)⟩
    clear e3 hC6 hM3 HC5 HG2 HB2 y0 y1 y2 y3 y4 y5 y6 y7 y8 y9 y10 f0 f1 f2 f3 f4 f5 f6 f7 f8 f9 f10
    by_cases he : er = 0
    · have hR := HR.out
      rw [if_neg (by simp [he])] at hR
      have HR := Aside0.mk hR
      clear hR
      have HER : Aside0 ((sortedV G.l x).2 = 0) := ⟨by rw [HEE.out]; exact he⟩
      subst he
      obtain ⟨D, hD, hI⟩ := HG3.out.ids
      obtain ⟨kl, hkl⟩ := key_node y HYW.out
      obtain ⟨c, hrun, hat, _⟩ := (World.ownsMap.drew hD).lookup_int nodeLaw Tryz.underlying120 Tryz.underlying3 (Tryz.zeroInt _) hkl
      obtain ⟨n, hn⟩ : ∃ n, ix G.l y = n := ⟨_, rfl⟩
      have hc : c = (n : Int) := by
        have := hat.symm.trans (hI y kl HYW.out hkl)
        rw [hn] at this
        simpa using this
      subst hc
      have HD := Aside0.mk hD
      have HI := Aside0.mk hI
      have HN := Aside0.mk hn
      have hR := HR.out
      rw [hn] at hR
      have HR := Aside0.mk hR
      have HKL := Aside0.mk hkl
      have hq2 := HG3.out.cells.cell 2 _ rfl
      have y0 := HC6.out.cell 0 _ rfl
      have y1 := HC6.out.cell 1 _ rfl
      have y2 := HC6.out.cell 2 _ rfl
      have y3 := HC6.out.cell 3 _ rfl
      have y4 := HC6.out.cell 4 _ rfl
      have y5 := HC6.out.cell 5 _ rfl
      have y6 := HC6.out.cell 6 _ rfl
      have y7 := HC6.out.cell 7 _ rfl
      have y8 := HC6.out.cell 8 _ rfl
      have y9 := HC6.out.cell 9 _ rfl
      have y10 := HC6.out.cell 10 _ rfl
      unfold Nd.cells at hrun
      clear hat hD hI hn hR hkl
      go_upto_region 6 with (fail)
      refine wp_plan [(0, 0), (0, 1), (0, 2), (1, 3), (1, 4), (1, 5), (0, 6)] (fun w' => w' = _) (by kernel_rfl) (by kernel_rfl) (fun _ _ d _ _ h => by cases d <;> exact h) rfl ?_
      simp only [planOps, List.filterMap_cons, List.filterMap_nil, List.getElem?_toArray, List.getElem?_cons_zero, List.getElem?_cons_succ, Option.map_some]
      repeat (first
        | (refine' plan_pu _ (by rfl) (fun w' => ?_) ?_; rotate_left 1; (focus (go_simp; try (with_reducible rfl))); (try simp only [wrapi_0, wrapi_1, wrapi_2, wrapi_3, wrapi_4, wrapi_0]); simp only [Act.put, List.setIfInBounds_toArray, List.set_cons_zero, List.set_cons_succ])
        | (refine' plan_off (by rfl) ?_; (try simp only [wrapi_0, wrapi_1, wrapi_2, wrapi_3, wrapi_4, wrapi_0]); simp only [Act.put, List.setIfInBounds_toArray, List.set_cons_zero, List.set_cons_succ])
        | (refine' plan_offL (by rfl) ?_; (try simp only [wrapi_0, wrapi_1, wrapi_2, wrapi_3, wrapi_4, wrapi_0]); simp only [Act.put, List.setIfInBounds_toArray, List.set_cons_zero, List.set_cons_succ])
        | (refine' plan_ld _ (by rfl) (fun w' hSw => ?_) ?_; rotate_left 1; (focus (subst hSw; go_simp; try (with_reducible rfl))); (try simp only [wrapi_0, wrapi_1, wrapi_2, wrapi_3, wrapi_4, wrapi_0]); simp only [Act.put, List.setIfInBounds_toArray, List.set_cons_zero, List.set_cons_succ]))
      refine plan_nil ?_
      clear hrun
      by_cases hn0 : n = 0
      · subst hn0
        have hR := HR.out
        rw [if_neg (by omega)] at hR
        have HR := Aside0.mk hR
        clear hR
        have hq0 := HG3.out.cells.cell 0 _ rfl
        have hq1 := HG3.out.cells.cell 1 _ rfl
        go_upto_region 9 with (fail)
        by_cases hm : G.most ≤ G.l.length
        · have hR := HR.out
          rw [if_pos hm] at hR
          subst hR
          have hm' : (G.most : Int) ≤ (G.l.length : Int) := by omega
          refine wp_plan [(0, 0), (0, 1), (0, 2), (0, 5), (0, 6), (0, 7), (1, 3), (0, 4), (1, 8), (0, 9)] (fun w' => w' = _) (by kernel_rfl) (by kernel_rfl) (fun _ _ d _ _ h => by cases d <;> exact h) rfl ?_
          simp only [planOps, List.filterMap_cons, List.filterMap_nil, List.getElem?_toArray, List.getElem?_cons_zero, List.getElem?_cons_succ, Option.map_some]
          repeat (first
            | (refine' plan_pu _ (by rfl) (fun w' => ?_) ?_; rotate_left 1; (focus (go_simp; try (with_reducible rfl))); (try simp only [wrapi_0, wrapi_1, wrapi_2, wrapi_3, wrapi_4, wrapi_0]); simp only [Act.put, List.setIfInBounds_toArray, List.set_cons_zero, List.set_cons_succ])
            | (refine' plan_off (by rfl) ?_; (try simp only [wrapi_0, wrapi_1, wrapi_2, wrapi_3, wrapi_4, wrapi_0]); simp only [Act.put, List.setIfInBounds_toArray, List.set_cons_zero, List.set_cons_succ])
            | (refine' plan_offL (by rfl) ?_; (try simp only [wrapi_0, wrapi_1, wrapi_2, wrapi_3, wrapi_4, wrapi_0]); simp only [Act.put, List.setIfInBounds_toArray, List.set_cons_zero, List.set_cons_succ])
            | (refine' plan_ld _ (by rfl) (fun w' hSw => ?_) ?_; rotate_left 1; (focus (subst hSw; go_simp; try (with_reducible rfl))); (try simp only [wrapi_0, wrapi_1, wrapi_2, wrapi_3, wrapi_4, wrapi_0]); simp only [Act.put, List.setIfInBounds_toArray, List.set_cons_zero, List.set_cons_succ]))
          refine plan_nil ?_
          go_wp2_with fail
          go_returns
          exact ⟨rfl, ⟨_, HG3.out.drew.drew⟩, ⟨KG.of_below HB3.out.drew.drew, NK.of_below HL.out.1 HB3.out.drew.drew⟩, (HB3.out.drew.drew).mono hBw⟩
        · have hR := HR.out
          rw [if_neg hm] at hR
          subst hR
          have hm' : (G.l.length : Int) < (G.most : Int) := by omega
          refine wp_plan [(0, 0), (0, 1), (0, 2), (0, 5), (0, 6), (0, 7), (1, 3), (0, 4), (1, 8), (0, 9)] (fun w' => w' = _) (by kernel_rfl) (by kernel_rfl) (fun _ _ d _ _ h => by cases d <;> exact h) rfl ?_
          simp only [planOps, List.filterMap_cons, List.filterMap_nil, List.getElem?_toArray, List.getElem?_cons_zero, List.getElem?_cons_succ, Option.map_some]
          repeat (first
            | (refine' plan_pu _ (by rfl) (fun w' => ?_) ?_; rotate_left 1; (focus (go_simp; try (with_reducible rfl))); (try simp only [wrapi_0, wrapi_1, wrapi_2, wrapi_3, wrapi_4, wrapi_0]); simp only [Act.put, List.setIfInBounds_toArray, List.set_cons_zero, List.set_cons_succ])
            | (refine' plan_off (by rfl) ?_; (try simp only [wrapi_0, wrapi_1, wrapi_2, wrapi_3, wrapi_4, wrapi_0]); simp only [Act.put, List.setIfInBounds_toArray, List.set_cons_zero, List.set_cons_succ])
            | (refine' plan_offL (by rfl) ?_; (try simp only [wrapi_0, wrapi_1, wrapi_2, wrapi_3, wrapi_4, wrapi_0]); simp only [Act.put, List.setIfInBounds_toArray, List.set_cons_zero, List.set_cons_succ])
            | (refine' plan_ld _ (by rfl) (fun w' hSw => ?_) ?_; rotate_left 1; (focus (subst hSw; go_simp; try (with_reducible rfl))); (try simp only [wrapi_0, wrapi_1, wrapi_2, wrapi_3, wrapi_4, wrapi_0]); simp only [Act.put, List.setIfInBounds_toArray, List.set_cons_zero, List.set_cons_succ]))
          refine plan_nil ?_
          clear hq0 hq1 hq2 y0 y1 y2 y3 y4 y5 y6 y7 y8 y9 y10
          go_upto_region 11 with (fail)
          refine wp_plan [(0, 0), (0, 1), (0, 2), (0, 3), (1, 4), (1, 5), (2, 6), (3, 7), (0, 8), (0, 9), (3, 10)] (fun w' => Cells w' g 124 [.int .i64 (G.most : Int), .slice A G.l.length cap, .map (some bi), .map (some bn)] ∧ Cells w' w.heap.size 112 [.int .i64 y.op, .int .i64 y.sort, .int .i64 y.a, .int .i64 y.b, .int .i64 y.c, .int .i64 y.p, .int .i64 y.q, .int .i64 y.w, .int .u64 y.lo, .int .u64 y.hi, .string y.name]) (by kernel_rfl) (by kernel_rfl) (fun _ _ d _ _ h => by cases d <;> exact h) ⟨HG3.out.cells, HC6.out⟩ ?_
          simp only [planOps, List.filterMap_cons, List.filterMap_nil, List.getElem?_toArray, List.getElem?_cons_zero, List.getElem?_cons_succ, Option.map_some]
          obtain ⟨w4, hw4⟩ : ∃ w4, w3.drew.drew.drew = w4 := ⟨_, rfl⟩
          rw [hw4]
          have HG4 : Aside0 (GI w4 B g G (.slice A G.l.length cap) bi bn) := ⟨by rw [← hw4]; exact HG3.out.drew.drew.drew⟩
          have HB4 : Aside0 (Below w.heap.size w w4) := ⟨by rw [← hw4]; exact HB3.out.drew.drew.drew⟩
          have HC7 : Aside0 (Cells w4 w.heap.size 112 y.cells) := ⟨by rw [← hw4]; exact HC6.out⟩
          clear hw4
          repeat (first
            | (refine' plan_pu _ (by rfl) (fun w' => ?_) ?_; rotate_left 1; (focus (go_simp; try (with_reducible rfl))); (try simp only [wrapi_0, wrapi_1, wrapi_2, wrapi_3, wrapi_4]); simp only [Act.put, List.setIfInBounds_toArray, List.set_cons_zero, List.set_cons_succ])
            | (refine' plan_off (by rfl) ?_; (try simp only [wrapi_0, wrapi_1, wrapi_2, wrapi_3, wrapi_4]); simp only [Act.put, List.setIfInBounds_toArray, List.set_cons_zero, List.set_cons_succ])
            | (refine' plan_offL (by rfl) ?_; (try simp only [wrapi_0, wrapi_1, wrapi_2, wrapi_3, wrapi_4]); simp only [Act.put, List.setIfInBounds_toArray, List.set_cons_zero, List.set_cons_succ])
            | (refine' plan_offE (by rfl) (by first | assumption | exact (by assumption)) ?_; (try simp only [wrapi_0, wrapi_1, wrapi_2, wrapi_3, wrapi_4]); simp only [Act.put, List.setIfInBounds_toArray, List.set_cons_zero, List.set_cons_succ])
            | (refine' plan_ld _ (by rfl) (fun w' hSw => ?_) ?_; rotate_left 1; (focus ((try dsimp only at hSw); have c1 := hSw.1.cell 1 _ rfl; have y0 := hSw.2.cell 0 _ rfl; have y1 := hSw.2.cell 1 _ rfl; have y2 := hSw.2.cell 2 _ rfl; have y3 := hSw.2.cell 3 _ rfl; have y4 := hSw.2.cell 4 _ rfl; have y5 := hSw.2.cell 5 _ rfl; have y6 := hSw.2.cell 6 _ rfl; have y7 := hSw.2.cell 7 _ rfl; have y8 := hSw.2.cell 8 _ rfl; have y9 := hSw.2.cell 9 _ rfl; have y10 := hSw.2.cell 10 _ rfl; go_simp; try (with_reducible rfl))); (try simp only [wrapi_0, wrapi_1, wrapi_2, wrapi_3, wrapi_4]); simp only [Act.put, List.setIfInBounds_toArray, List.set_cons_zero, List.set_cons_succ]))
          refine plan_ef (fun K hK => ?_)
          go_simp
          obtain ⟨w5, hw5⟩ : ∃ w5, (w4.alloc (.cells y.cells.toArray 112)) = w5 := ⟨_, rfl⟩
          have HG5 : Aside0 (GI w5 B g G (.slice A G.l.length cap) bi bn) := ⟨by rw [← hw5]; exact HG4.out.below ((Below.refl _ w4).alloc (Nat.le_refl _) _)⟩
          have HB5 : Aside0 (Below w.heap.size w w5) := ⟨by rw [← hw5]; exact HB4.out.alloc HB4.out.size _⟩
          have HC8 : Aside0 (Cells w5 w.heap.size 112 y.cells) := ⟨by rw [← hw5]; exact HC7.out.alloc _⟩
          have HC9 : Aside0 (Cells w5 w4.heap.size 112 y.cells) := ⟨by rw [← hw5]; exact Cells.new w4 _ _⟩
          unfold Nd.cells at hw5
          try rw [hw5]
          refine hK.out _ _ ⟨HG5.out.cells, HC8.out⟩ (fun _ => ?_)
          clear hK K hw5
          try simp only [Act.put, List.setIfInBounds_toArray, List.set_cons_zero, List.set_cons_succ]
          refine plan_fi (fun K hK => ?_)
          refine ap_at (w0 := w) w5 B (.tmp 45) (.tmp 47) 122 112 (.agg nd0.cells.toArray) 11 96 (.slice A G.l.length cap) G.l.length (gcells G.l) y.cells ⟨w4.heap.size, 0, none⟩ 1 (fun j u hu => by rw [add0]; exact HC9.out.cell j u hu) (by rfl) rfl Tryz.underlying122 Tryz.infoNode rfl (by decide) (by decide) (by rfl) (by simp [Act.eval]) rfl (by simp [Nd.cells, Value.oneCell']) HG5.out.row (HB5.out.mono hBw) (Nat.le_trans hBw HB5.out.size) (by have := HG5.out.most; omega) ?_
          intro v1 w6 hown1 hB6 hg1 hat1
          have HAT : Aside0 (∀ k, k < w.heap.size → v1.ownBlock = some k → OwnB g w k) := ⟨fun k hk q => by
            rcases hat1 with q1 | ⟨b, q1, hb⟩
            · exact HOW.out k (by rw [← q1]; exact q)
            · rw [q1] at q
              have := HB5.out.size
              have e : b = k := by simpa using q
              omega⟩
          have hm6 : Mod (fun k => (Value.slice A G.l.length cap).ownBlock = some k) w5 w6 := (Mod.refl _ w5).grown hg1 (fun k hk => .inl hk)
          have hne : ∀ k, (Value.slice A G.l.length cap).ownBlock = some k → k ≠ g ∧ k ≠ bi ∧ k ≠ bn ∧ k ≠ w.heap.size := fun k hk => by
            have hlt := HV.out k hk
            obtain ⟨l', hl'⟩ := own_cells HG5.out.row k hk
            refine ⟨fun q => ?_, fun q => ?_, fun q => ?_, by omega⟩
            · subst q; exact own_ne_cells HG5.out.row HG5.out.cells (by decide) hk
            · subst q
              obtain ⟨D, ⟨es, cl, hm1, _⟩, _⟩ := HG5.out.ids
              unfold Cells at hl'; rw [hl'] at hm1; cases hm1
            · subst q
              obtain ⟨D, ⟨es, cl, hm1, _⟩, _⟩ := HG5.out.names
              unfold Cells at hl'; rw [hl'] at hm1; cases hm1
          obtain ⟨b1, cap1, l1, rfl, hl1, _, _, _, _⟩ := own_row hown1 (by omega)
          have HC10 : Aside0 (Cells w6 g 124 [.int .i64 (G.most : Int), .slice A G.l.length cap, .map (some bi), .map (some bn)]) := ⟨HG5.out.cells.keep hm6 (fun q => (hne _ q).1 rfl)⟩
          have HC11 : Aside0 (Cells w6 w.heap.size 112 y.cells) := ⟨HC8.out.keep hm6 (fun q => (hne _ q).2.2.2 rfl)⟩
          have HM6 : Aside0 (w6.heap[bi]? = w5.heap[bi]? ∧ w6.heap[bn]? = w5.heap[bn]?) := ⟨hm6.keep bi (by have := HL.out; have := HB5.out.size; omega) (fun q => (hne _ q).2.1 rfl), hm6.keep bn (by have := HL.out; have := HB5.out.size; omega) (fun q => (hne _ q).2.2.1 rfl)⟩
          have HK6 : Aside0 (Mod (GY g bi bn w) w w6) := ⟨Mod.grown (Mod.of_below HB5.out) hg1 (fun k hk => .inl (.inr (.inr (.inr (HOW.out k hk)))))⟩
          have HO6 := Aside0.mk hown1
          have HB6 := Aside0.mk hB6
          have hb1 : b1 ≠ g ∧ b1 ≠ bi ∧ b1 ≠ bn ∧ b1 ≠ w.heap.size := by
            rcases hat1 with q | ⟨b, q, hb⟩
            · exact hne b1 q.symm
            · have e : b1 = b := by simpa [Value.ownBlock] using q
              have := HL.out
              have := HB5.out.size
              have := HC8.out.lt
              omega
          have HB1 := Aside0.mk hb1
          have HL6 : Aside0 (b1 < w6.heap.size) := ⟨hl1.lt⟩
          clear hm6 hne hown1 hB6 hg1 hat1 hb1 hl1
          have s1 := HC10.out.cell 1 _ rfl
          have t1 := HC10.out.frozen 1
          refine hK.out _ _ ?_
          clear hK K
          repeat (first
            | (refine' plan_pu _ (by rfl) (fun w' => ?_) ?_; rotate_left 1; (focus (go_simp; try (with_reducible rfl))); simp only [Act.put, List.setIfInBounds_toArray, List.set_cons_zero, List.set_cons_succ]))
          refine plan_fi (fun K hK => ?_)
          go_simp
          refine hK.out _ _ (plan_nil ?_)
          clear hK K s1 t1
          obtain ⟨w7, hw7⟩ : ∃ w7, w6.setCell ⟨g, 1, none⟩ (.slice (some ⟨b1, 0, none⟩) (G.l.length + 1) cap1) = w7 := ⟨_, rfl⟩
          have hm7 : Mod (fun k => k = g) w6 w7 := by rw [← hw7]; exact (Mod.refl (fun k => k = g) w6).setCell (p := ⟨g, 1, none⟩) (.inl rfl) _
          have HC12 : Aside0 (Cells w7 g 124 [.int .i64 (G.most : Int), .slice (some ⟨b1, 0, none⟩) (G.l.length + 1) cap1, .map (some bi), .map (some bn)]) := ⟨by rw [← hw7]; exact HC10.out.set 1 _⟩
          have HC13 : Aside0 (Cells w7 w.heap.size 112 y.cells) := ⟨HC11.out.keep hm7 (by have := HL.out; omega)⟩
          have HO7 : Aside0 (w7.ownsRow B 112 11 (.slice (some ⟨b1, 0, none⟩) (G.l.length + 1) cap1) (G.l.length + 1) (gcells G.l ++ y.cells)) := ⟨own_keep HO6.out hm7 (fun k hk q => by
            have e : b1 = k := by simpa [Value.ownBlock] using hk
            exact HB1.out.1 (e.trans q))⟩
          have HK7 : Aside0 (Mod (GY g bi bn w) w w7) := ⟨by rw [← hw7]; exact Mod.setCell HK6.out (p := ⟨g, 1, none⟩) (.inl (.inl rfl)) _⟩
          have HB7 : Aside0 (Below B w w7) := ⟨by rw [← hw7]; exact HB6.out.setCell (p := ⟨g, 1, none⟩) HG5.out.base _⟩
          have HM7 : Aside0 (w7.heap[bi]? = w5.heap[bi]? ∧ w7.heap[bn]? = w5.heap[bn]?) := by
            have hsz := HK6.out.size
            have := HL.out
            obtain ⟨D, hD, _⟩ := HG5.out.ids
            refine ⟨(hm7.keep bi (by omega) ?_).trans HM6.out.1, (hm7.keep bn (by omega) ?_).trans HM6.out.2⟩
            · intro q; subst q
              obtain ⟨D, ⟨es, cl, hm1, _⟩, _⟩ := HG5.out.ids
              have := HG5.out.cells
              unfold Cells at this; rw [this] at hm1; cases hm1
            · intro q; subst q
              obtain ⟨D, ⟨es, cl, hm1, _⟩, _⟩ := HG5.out.names
              have := HG5.out.cells
              unfold Cells at this; rw [this] at hm1; cases hm1
          rw [hw7]
          clear hw7 hm7 HC10 HC11 HO6 HK6 HB6 HM6
          have s1 := HC12.out.cell 1 _ rfl
          have s2 := HC12.out.cell 2 _ rfl
          have s3 := HC12.out.cell 3 _ rfl
          go_upto_region 13 with (fail)
          clear s1 s2 s3
          refine wp_plan [(0, 0), (0, 1), (0, 2), (0, 5), (1, 3), (1, 4), (3, 6)] (fun w' => Cells w' g 124 [.int .i64 (G.most : Int), .slice (some ⟨b1, 0, none⟩) (G.l.length + 1) cap1, .map (some bi), .map (some bn)] ∧ Cells w' w.heap.size 112 [.int .i64 y.op, .int .i64 y.sort, .int .i64 y.a, .int .i64 y.b, .int .i64 y.c, .int .i64 y.p, .int .i64 y.q, .int .i64 y.w, .int .u64 y.lo, .int .u64 y.hi, .string y.name]) (by kernel_rfl) (by kernel_rfl) (fun _ _ d _ _ h => by cases d <;> exact h) ⟨HC12.out, HC13.out⟩ ?_
          simp only [planOps, List.filterMap_cons, List.filterMap_nil, List.getElem?_toArray, List.getElem?_cons_zero, List.getElem?_cons_succ, Option.map_some]
          repeat (first
            | (refine' plan_pu _ (by rfl) (fun w' => ?_) ?_; rotate_left 1; (focus (go_simp; try (with_reducible rfl))); (try simp only [wrapi_0, wrapi_1, wrapi_2, wrapi_3, wrapi_4]); simp only [Act.put, List.setIfInBounds_toArray, List.set_cons_zero, List.set_cons_succ])
            | (refine' plan_off (by rfl) ?_; (try simp only [wrapi_0, wrapi_1, wrapi_2, wrapi_3, wrapi_4]); simp only [Act.put, List.setIfInBounds_toArray, List.set_cons_zero, List.set_cons_succ])
            | (refine' plan_offL (by rfl) ?_; (try simp only [wrapi_0, wrapi_1, wrapi_2, wrapi_3, wrapi_4]); simp only [Act.put, List.setIfInBounds_toArray, List.set_cons_zero, List.set_cons_succ])
            | (refine' plan_offE (by rfl) (by first | assumption | exact (by assumption)) ?_; (try simp only [wrapi_0, wrapi_1, wrapi_2, wrapi_3, wrapi_4]); simp only [Act.put, List.setIfInBounds_toArray, List.set_cons_zero, List.set_cons_succ])
            | (refine' plan_ld _ (by rfl) (fun w' hSw => ?_) ?_; rotate_left 1; (focus ((try dsimp only at hSw); have c2 := hSw.1.cell 2 _ rfl; have y0 := hSw.2.cell 0 _ rfl; have y1 := hSw.2.cell 1 _ rfl; have y2 := hSw.2.cell 2 _ rfl; have y3 := hSw.2.cell 3 _ rfl; have y4 := hSw.2.cell 4 _ rfl; have y5 := hSw.2.cell 5 _ rfl; have y6 := hSw.2.cell 6 _ rfl; have y7 := hSw.2.cell 7 _ rfl; have y8 := hSw.2.cell 8 _ rfl; have y9 := hSw.2.cell 9 _ rfl; have y10 := hSw.2.cell 10 _ rfl; go_simp; try (with_reducible rfl))); (try simp only [wrapi_0, wrapi_1, wrapi_2, wrapi_3, wrapi_4]); simp only [Act.put, List.setIfInBounds_toArray, List.set_cons_zero, List.set_cons_succ]))
          obtain ⟨D5, hD5, hI5⟩ := HG5.out.ids
          have hD7 : gmap 112 w7.drew bi G.l.length D5 := gmap_heap hD5 HM7.out.1
          have hlm : G.l.length < maxLen := by have := HG5.out.most; have := HG5.out.len; unfold maxLen; omega
          obtain ⟨w9, hrun, hown9, hgr9⟩ := World.ownsMap.update hD7 nodeLaw Tryz.underlying120 hlm HKL.out (plainElem_int (H := Unit) Tryz.underlying3 (a := (G.l.length : Int) + 1) (WalkArith.wf_i64 (by have := HG5.out.most; have := HG5.out.len; omega)))
          unfold Nd.cells at hrun
          refine plan_fi (fun K hK => ?_)
          go_simp
          refine hK.out _ _ (plan_nil ?_)
          clear hK K hrun
          have ec : ((G.l.length : Int) + 1) = ((G.l.length + 1 : Nat) : Int) := by omega
          rw [ec] at hown9
          clear ec
          have HI9 : Aside0 (∃ D, gmap 112 w9 bi (G.l.length + 1) D ∧ IdsOk D (G.l ++ [y])) := ⟨_, hown9, hI5.put hD5.isMap HYW.out HKL.out HN.out⟩
          have hne9 : bi ≠ g ∧ bi ≠ bn ∧ bi ≠ w.heap.size ∧ bi ≠ b1 := by
            refine ⟨fun q => ?_, HG5.out.ne, by have := HL.out; omega, fun q => HB1.out.2.1 q.symm⟩
            subst q
            obtain ⟨D, ⟨es, cl, hm1, _⟩, _⟩ := HG5.out.ids
            have := HG5.out.cells
            unfold Cells at this; rw [this] at hm1; cases hm1
          have HC14 : Aside0 (Cells w9 g 124 [.int .i64 (G.most : Int), .slice (some ⟨b1, 0, none⟩) (G.l.length + 1) cap1, .map (some bi), .map (some bn)]) := ⟨(HC12.out.drew).grown hgr9 (by have := hne9.1; simpa using this)⟩
          have HC15 : Aside0 (Cells w9 w.heap.size 112 y.cells) := ⟨(HC13.out.drew).grown hgr9 (by have := hne9.2.2.1; simpa using this)⟩
          have hm9 : Mod (fun k => k = bi) w7.drew w9 := (Mod.refl _ _).grown hgr9 (fun k hk => .inl (by simpa using hk.symm))
          have HO9 : Aside0 (w9.ownsRow B 112 11 (.slice (some ⟨b1, 0, none⟩) (G.l.length + 1) cap1) (G.l.length + 1) (gcells G.l ++ y.cells)) := ⟨own_keep (own_keep HO7.out ((Mod.refl (fun _ => False) w7).drew) (fun _ _ q => q)) hm9 (fun k hk q => by
            have e : b1 = k := by simpa [Value.ownBlock] using hk
            exact hne9.2.2.2 (by rw [e, q]))⟩
          have HK9 : Aside0 (Mod (GY g bi bn w) w w9) := ⟨Mod.grown (Mod.drew HK7.out) hgr9 (fun k hk => .inl (.inr (.inl (by simpa using hk.symm))))⟩
          have HB9 : Aside0 (Below B w w9) := ⟨HB7.out.drew.trans (hm9.belowB (fun k q => by rw [q]; exact HG5.out.ibase) (Nat.le_trans hBw HK7.out.size))⟩
          have HM9 : Aside0 (w9.heap[bn]? = w5.heap[bn]?) := ⟨(hm9.keep bn (by have := HK7.out.size; have := HL.out; show bn < w7.heap.size; omega) (fun q => hne9.2.1 q.symm)).trans HM7.out.2⟩
          clear hm9 hown9 hgr9 hD7 hD5 hI5 HC12 HC13 HO7 HK7 HB7 HM7 hne9
          have x0 := HC15.out.cell 0 _ rfl
          have hrow : gcells G.l ++ y.cells = gcells (G.l ++ [y]) := by rw [gcells_append]; simp [gcells]
          have hlen : (G.l ++ [y]).length = G.l.length + 1 := by simp
          have HGF : ∀ (w' : World), Cells w' g 124 [.int .i64 (G.most : Int), .slice (some ⟨b1, 0, none⟩) (G.l.length + 1) cap1, .map (some bi), .map (some bn)] → w'.ownsRow B 112 11 (.slice (some ⟨b1, 0, none⟩) (G.l.length + 1) cap1) (G.l.length + 1) (gcells G.l ++ y.cells) → (∃ D, gmap 112 w' bi (G.l.length + 1) D ∧ IdsOk D (G.l ++ [y])) → (∃ D, gmap 9 w' bn (G.l.length + 1) D ∧ NamesOk D (G.l ++ [y])) → GI w' B g { G with l := G.l ++ [y] } (.slice (some ⟨b1, 0, none⟩) (G.l.length + 1) cap1) bi bn := fun w' a1 a2 a3 a4 => by
            refine ⟨a1, HG5.out.base, HG5.out.most, by simp only [hlen]; omega, by simp only [hlen]; rw [← hrow]; exact a2, fun z hz => ?_, fun z hz => ?_, by simp only [hlen]; exact a3, by simp only [hlen]; exact a4, HG5.out.ibase, HG5.out.nbase, HG5.out.ne⟩
            · rcases List.mem_append.1 hz with q | q
              · exact HG5.out.wf z q
              · have : z = y := by simpa using q
                rw [this]; exact HYW.out
            · rcases List.mem_append.1 hz with q | q
              · exact HG5.out.vars z q
              · have : z = y := by simpa using q
                rw [this, ← HY.out]; exact var_of HF.out HER.out
          have HGF := Aside0.mk HGF
          obtain ⟨D6, hD6, hN6⟩ := HG5.out.names
          have hD9 : gmap 9 w9 bn G.l.length D6 := gmap_heap hD6 HM9.out
          clear hrow hlen
          by_cases hop : y.op = 2
          · have hop' : (y.op == 2) = true := beq_iff_eq.mpr hop
            have h0n : nix G.l y.name = 0 := by
              rw [← HY.out]
              exact var_new HG5.out.vars HF.out HER.out (by rw [HY.out]; exact HN.out) (by rw [HY.out]; exact hop)
            have hkn := WideMaps.keyOf_string_mk (P := Tryz.prog) Tryz.underlying9 HYW.out.name
            have hlm : G.l.length < maxLen := by have := HG5.out.most; have := HG5.out.len; unfold maxLen; omega
            obtain ⟨w10, hrun, hown10, hgr10⟩ := World.ownsMap.update (World.ownsMap.drew hD9) strLaw Tryz.underlying121 hlm hkn (plainElem_int (H := Unit) Tryz.underlying3 (a := (G.l.length : Int) + 1) (WalkArith.wf_i64 (by have := HG5.out.most; have := HG5.out.len; omega)))
            have hN10 := hN6.put hD9.isMap hop h0n
            have HOP := Aside0.mk hop
            have HD9 := Aside0.mk hD9
            have HN10 := Aside0.mk hN10
            have HW10 := Aside0.mk hown10
            have HR10 := Aside0.mk hgr10
            clear hop h0n hkn hN10 hD9 hD6 hN6 hown10 hgr10
            go_upto_region 15 with (fail)
            clear x0
            refine wp_plan [(0, 0), (0, 1), (0, 2), (0, 4), (0, 6), (1, 3), (1, 5), (3, 7)] (fun w' => Cells w' g 124 [.int .i64 (G.most : Int), .slice (some ⟨b1, 0, none⟩) (G.l.length + 1) cap1, .map (some bi), .map (some bn)] ∧ Cells w' w.heap.size 112 [.int .i64 y.op, .int .i64 y.sort, .int .i64 y.a, .int .i64 y.b, .int .i64 y.c, .int .i64 y.p, .int .i64 y.q, .int .i64 y.w, .int .u64 y.lo, .int .u64 y.hi, .string y.name]) (by kernel_rfl) (by kernel_rfl) (fun _ _ d _ _ h => by cases d <;> exact h) ⟨HC14.out, HC15.out⟩ ?_
            simp only [planOps, List.filterMap_cons, List.filterMap_nil, List.getElem?_toArray, List.getElem?_cons_zero, List.getElem?_cons_succ, Option.map_some]
            repeat (first
              | (refine' plan_pu _ (by rfl) (fun w' => ?_) ?_; rotate_left 1; (focus (go_simp; try (with_reducible rfl))); (try simp only [wrapi_0, wrapi_1, wrapi_2, wrapi_3, wrapi_4]); simp only [Act.put, List.setIfInBounds_toArray, List.set_cons_zero, List.set_cons_succ])
              | (refine' plan_off (by rfl) ?_; (try simp only [wrapi_0, wrapi_1, wrapi_2, wrapi_3, wrapi_4]); simp only [Act.put, List.setIfInBounds_toArray, List.set_cons_zero, List.set_cons_succ])
              | (refine' plan_offL (by rfl) ?_; (try simp only [wrapi_0, wrapi_1, wrapi_2, wrapi_3, wrapi_4]); simp only [Act.put, List.setIfInBounds_toArray, List.set_cons_zero, List.set_cons_succ])
              | (refine' plan_offE (by rfl) (by first | assumption | exact (by assumption)) ?_; (try simp only [wrapi_0, wrapi_1, wrapi_2, wrapi_3, wrapi_4]); simp only [Act.put, List.setIfInBounds_toArray, List.set_cons_zero, List.set_cons_succ])
              | (refine' plan_ld _ (by rfl) (fun w' hSw => ?_) ?_; rotate_left 1; (focus ((try dsimp only at hSw); have c3 := hSw.1.cell 3 _ rfl; have y10 := hSw.2.cell 10 _ rfl; go_simp; try (with_reducible rfl))); (try simp only [wrapi_0, wrapi_1, wrapi_2, wrapi_3, wrapi_4]); simp only [Act.put, List.setIfInBounds_toArray, List.set_cons_zero, List.set_cons_succ]))
            refine plan_fi (fun K hK => ?_)
            go_simp
            refine hK.out _ _ (plan_nil ?_)
            clear hK K hrun
            have ec : ((G.l.length : Int) + 1) = ((G.l.length + 1 : Nat) : Int) := by omega
            have hown10 := HW10.out
            rw [ec] at hown10
            clear ec
            have hgr10 := HR10.out
            have hne10 : bn ≠ g ∧ bn ≠ bi ∧ bn ≠ b1 := by
              refine ⟨fun q => ?_, fun q => HG5.out.ne q.symm, fun q => HB1.out.2.2.1 q.symm⟩
              subst q
              obtain ⟨D, ⟨es, cl, hm1, _⟩, _⟩ := HG5.out.names
              have := HG5.out.cells
              unfold Cells at this; rw [this] at hm1; cases hm1
            have hm10 : Mod (fun k => k = bn) w9.drew w10 := (Mod.refl _ _).grown hgr10 (fun k hk => .inl (by simpa using hk.symm))
            have HG10 : Aside0 (GI w10 B g { G with l := G.l ++ [y] } (.slice (some ⟨b1, 0, none⟩) (G.l.length + 1) cap1) bi bn) := ⟨by
              refine HGF.out w10 ((HC14.out.drew).grown hgr10 (by have := hne10.1; simpa using this)) (own_keep (own_keep HO9.out ((Mod.refl (fun _ => False) w9).drew) (fun _ _ q => q)) hm10 (fun k hk q => by
                have e : b1 = k := by simpa [Value.ownBlock] using hk
                exact hne10.2.2 (by rw [e, q]))) ?_ ⟨_, hown10, HN10.out⟩
              obtain ⟨D, hD, hI⟩ := HI9.out
              exact ⟨D, gmap_heap hD ((hm10.keep bi hD.lt (fun q => hne10.2.1 q.symm))), hI⟩⟩
            have HK10 : Aside0 (Mod (GY g bi bn w) w w10) := ⟨Mod.grown (Mod.drew HK9.out) hgr10 (fun k hk => .inl (.inr (.inr (.inl (by simpa using hk.symm)))))⟩
            have HB10 : Aside0 (Below B w w10) := ⟨HB9.out.drew.trans (hm10.belowB (fun k q => by rw [q]; exact HG5.out.nbase) (Nat.le_trans hBw HK9.out.size))⟩
            clear hm10 hown10 hgr10 hne10
            go_wp2_with fail
            go_returns
            exact ⟨rfl, ⟨_, HG10.out⟩, ⟨HK10.out.mono (fun k _ q => HGY.out k q), NK.of_mod HK10.out (HG10.out.cells.cell 1 _ rfl) HAT.out⟩, HB10.out⟩
          · have hop' : (y.op == 2) = false := beq_eq_false_iff_ne.mpr hop
            have HNF : Aside0 (∃ D, gmap 9 w9 bn (G.l.length + 1) D ∧ NamesOk D (G.l ++ [y])) := ⟨_, hD9.mono (by omega), hN6.other hop⟩
            clear hop
            go_wp2_with fail
            go_returns
            exact ⟨rfl, ⟨_, HGF.out _ HC14.out HO9.out HI9.out HNF.out⟩, ⟨HK9.out.mono (fun k _ q => HGY.out k q), NK.of_mod HK9.out (HC14.out.cell 1 _ rfl) HAT.out⟩, HB9.out⟩
      · have hR := HR.out
        rw [if_pos hn0] at hR
        subst hR
        have hpos : 0 < (n : Int) := by omega
        go_wp2_with fail
        go_returns
        exact ⟨rfl, ⟨_, HG3.out.drew⟩, ⟨KG.of_below HB3.out.drew, NK.of_below HL.out.1 HB3.out.drew⟩, (HB3.out.drew).mono hBw⟩
    · have hR := HR.out
      rw [if_pos he] at hR
      subst hR
      go_wp2_with fail
      go_returns
      exact ⟨rfl, ⟨_, HG3.out⟩, ⟨KG.of_below HB3.out, NK.of_below HL.out.1 HB3.out⟩, HB3.out.mono hBw⟩
end Go.Proofs.YthhnhbpmpdminaaGreatDoor
