/-
term: sorted, of an operator. Conditions: the graph in memory; the node is formed.
-/
import Derived.Test.YthhnhbpmpdminaaGreatDoorXL
import Derived.Test.YthhnhbpmpdminaaGreatDoorRpu
namespace Go.Proofs.YthhnhbpmpdminaaGreatDoor
set_option maxRecDepth 4096
set_option maxHeartbeats 8000000
set_option linter.unusedSimpArgs false
set_option linter.unusedVariables false
set_option linter.unnecessarySimpa false
open Go.RowKit Go.Proofs.YthhnhbpmpdminaaGreatDoorW.PrintWords Go.Maps
def opds (x : Nd) : List Int := [x.a, x.b, x.c]
def sortsTo (l : List Nd) (x : Nd) (i : Nat) : List Int := (((opds x).take i).filter fun id => decide (0 < id)).map (sortAt l)
theorem sortsTo_len (l : List Nd) (x : Nd) (i : Nat) (hi : i ≤ 3) : (sortsTo l x i).length ≤ i := by
  unfold sortsTo
  rw [List.length_map]
  refine Nat.le_trans (List.length_filter_le _ _) ?_
  rw [List.length_take]; omega
theorem sortsTo_succ (l : List Nd) (x : Nd) (i : Nat) (hi : i < 3) : sortsTo l x (i + 1) = if 0 < (opds x)[i]'hi then sortsTo l x i ++ [sortAt l ((opds x)[i]'hi)] else sortsTo l x i := by
  unfold sortsTo
  rw [List.take_succ_eq_append_getElem (by exact hi), List.filter_append, List.map_append]
  by_cases h : 0 < (opds x)[i]'hi
  · rw [if_pos h]; simp [h]
  · rw [if_neg h]; simp [h]
structure SJ (w : World) (B g bi bn : Nat) (G : Gr) (vn : Value) (x : Nd) (i : Nat) (v : Value) (wr : World) : Prop where
  own : wr.ownsRow w.heap.size 3 1 v (sortsTo G.l x i).length ((sortsTo G.l x i).map (Value.int .i64))
  below : Below w.heap.size w wr
  node : Cells wr w.heap.size 112 x.cells
  out : Cells wr (w.heap.size + 1) 112 nd0.cells
  gi : GI wr B g G vn bi bn
set_option maxHeartbeats 40000000 in
theorem sorted_op (B g bi bn : Nat) (G : Gr) (vn : Value) (x : Nd) (w : World) (h : GI w B g G vn bi bn) (hx : x.Wf) (h1 : x.op ≠ 1) (h2 : x.op ≠ 2) (hf : ∀ id ∈ opds x, 0 < id → id ≤ (G.l.length : Int)) :
    Calls Tryz.prog 100 #[.pointer (some ⟨g, 0, none⟩), .agg x.cells.toArray] w fun e w' => e = .returned (.tuple #[.agg (sortedV G.l x).1.cells.toArray, .int .i64 (sortedV G.l x).2]) ∧ Below w.heap.size w w' := by
  obtain ⟨A, cap, rfl, hc1, hc2⟩ := h.form
  obtain ⟨R, hR⟩ : ∃ b, sortedV G.l x = b := ⟨_, rfl⟩
  rw [hR]
  unfold sortedV at hR
  rw [if_neg h1, if_neg h2] at hR
  have HR := Aside0.mk hR
  clear hR
  have HX := Aside0.mk hx
  obtain ⟨w0, hw0⟩ : ∃ w0, (w.alloc (.cells x.cells.toArray 112)).alloc (.cells nd0.cells.toArray 112) = w0 := ⟨_, rfl⟩
  have HC3 : Aside0 (Cells w0 w.heap.size 112 x.cells) := ⟨by rw [← hw0]; exact (Cells.new w _ _).alloc _⟩
  have HC4 : Aside0 (Cells w0 (w.heap.size + 1) 112 nd0.cells) := ⟨by rw [← hw0]; have := Cells.new (w.alloc (.cells x.cells.toArray 112)) 112 nd0.cells; simpa using this⟩
  have HB : Aside0 (Below w.heap.size w w0) := ⟨by rw [← hw0]; exact ((Below.refl _ w).alloc (Nat.le_refl _) _).alloc (by simp) _⟩
  have HG := Aside0.mk (h.below HB.out)
  have e0 : w0 = (w.alloc (.cells #[.int .i64 x.op, .int .i64 x.sort, .int .i64 x.a, .int .i64 x.b, .int .i64 x.c, .int .i64 x.p, .int .i64 x.q, .int .i64 x.w, .int .u64 x.lo, .int .u64 x.hi, .string x.name] 112)).alloc (.cells #[.int .i64 0, .int .i64 0, .int .i64 0, .int .i64 0, .int .i64 0, .int .i64 0, .int .i64 0, .int .i64 0, .int .u64 0, .int .u64 0, .string ⟨#[]⟩] 112) := hw0.symm
  have HF := Aside0.mk hf
  have y0 := HC3.out.cell 0 _ rfl
  have y2 := HC3.out.cell 2 _ rfl
  have y3 := HC3.out.cell 3 _ rfl
  have y4 := HC3.out.cell 4 _ rfl
  have H2 := Aside0.mk h2
  have b1 : (x.op == 1) = false := beq_eq_false_iff_ne.mpr h1
  have b2 : (x.op == 2) = false := beq_eq_false_iff_ne.mpr h2
  clear h hx hw0 hf h1 h2
  unfold Nd.cells
  go_enter Tryz.func100, Tryz.ntmps100
  go_upto_region 1 with (fail)
  rw [← e0]
  clear e0
  go_wp2_with fail
  go_loopw [7, 93] (fun v7 v93 wr => ∃ i : Nat, i ≤ 3 ∧ v93 = .int .i64 (i : Int) ∧ SJ w B g bi bn G (.slice A G.l.length cap) x i v7 wr) (fun _ v _ => 3 - (intOf v).toNat)
  case atStart => exact ⟨0, by omega, rfl, ⟨World.ownsRow_nil _ _ _ _, HB.out, HC3.out, HC4.out, HG.out⟩⟩
  case round =>
    obtain ⟨i, hi, rfl, hJ⟩ := hrel
    have HJ := Aside0.mk hJ
    clear hJ
    by_cases hlt : i < 3
    · have hlt' : (i : Int) < 3 := by omega
      rcases (by omega : i = 0 ∨ i = 1 ∨ i = 2) with rfl | rfl | rfl
      · have i0 := fun a b c => idx3_0 a b c wr
        have HS : Aside0 (sortsTo G.l x 1 = if 0 < x.a then sortsTo G.l x 0 ++ [sortAt G.l x.a] else sortsTo G.l x 0) := ⟨sortsTo_succ G.l x 0 (by omega)⟩
        by_cases hid : 0 < x.a
        · obtain ⟨k, hk⟩ : ∃ k : Nat, x.a = (k : Int) + 1 := ⟨(x.a - 1).toNat, by omega⟩
          have hkl : k < G.l.length := by have := HF.out x.a (by simp [opds]) hid; omega
          obtain ⟨yy, hy⟩ : ∃ yy, G.l[k]? = some yy := ⟨_, List.getElem?_eq_getElem hkl⟩
          obtain ⟨bb, rfl, hcell⟩ := HJ.out.gi.node hy rfl
          have hs1 := hcell 1 _ rfl
          have hk2 : (k : Int) < (G.l.length : Int) := by omega
          have hw : wrap64 (x.a - 1) = (k : Int) := by unfold wrap64; omega
          have hgc := HJ.out.gi.cells.cell 1 _ rfl
          have HT : Aside0 (sortsTo G.l x 1 = sortsTo G.l x 0 ++ [yy.sort]) := ⟨by
            rw [HS.out, if_pos hid]
            congr 2
            show sortAt G.l x.a = _
            rw [hk]
            exact nodeSort hy⟩
          have hz := HJ.out.below.size
          have hln := sortsTo_len G.l x 0 (by omega)
          clear hcell hy hk HS
          go_wp2_with (at_builtin; (refine apl_at (w0 := w) _ w.heap.size (.tmp 98) (.tmp 108) 61 3 (.int .i64 0) 1 8 u7 (sortsTo G.l x 0).length ((sortsTo G.l x 0).map (Value.int .i64)) [.int .i64 yy.sort] ⟨wr.heap.size, 0, none⟩ 1 rfl rfl (news_one (Cells.new wr _ _)) Tryz.underlying61 Tryz.infoInt rfl (by decide) (by decide) (by rfl) (by rfl) rfl (by simp [Value.oneCell']) (HJ.out.own.alloc _) (HJ.out.below.alloc hz _) (Nat.le_trans hz (by simp)) (by omega) ?_; intro v1 w3 hown1 hB3 hg1 hat1; have HO1 := Aside0.mk hown1; have HB3 := Aside0.mk hB3; have HG1 := Aside0.mk hg1; clear hown1 hB3 hg1 hat1))
          refine ⟨⟨1, by omega, rfl, ?_⟩, by simp only [intOf]; omega⟩
          have hne : ∀ k, u7.ownBlock = some k → ∀ (l : List Value), ¬ Cells wr k 112 l := fun k hk l hl => own_ne_cells HJ.out.own hl (by decide) hk
          have hm : Mod (fun k => u7.ownBlock = some k) wr w3 := ((Mod.refl _ wr).alloc _).grown HG1.out (fun k hk => .inl hk)
          refine ⟨?_, HB3.out, HJ.out.node.keep hm (fun q => hne _ q _ HJ.out.node), HJ.out.out.keep hm (fun q => hne _ q _ HJ.out.out), HJ.out.gi.keep hm (fun j hj q z => ?_)⟩
          · rw [HT.out, List.length_append, List.map_append]; exact HO1.out
          · obtain ⟨l', hl'⟩ := own_cells HJ.out.own j q
            have hjb := own_base_le HJ.out.own j q
            rcases z with z | z | z | ⟨_, l2, hl2⟩
            · subst z; exact own_ne_cells HJ.out.own HJ.out.gi.cells (by decide) q
            · subst z
              obtain ⟨D, ⟨es, cl, hm1, _⟩, _⟩ := HJ.out.gi.ids
              unfold Cells at hl'; rw [hl'] at hm1; cases hm1
            · subst z
              obtain ⟨D, ⟨es, cl, hm1, _⟩, _⟩ := HJ.out.gi.names
              unfold Cells at hl'; rw [hl'] at hm1; cases hm1
            · exact hne j q l2 hl2
        · have HT : Aside0 (sortsTo G.l x 1 = sortsTo G.l x 0) := ⟨by rw [HS.out, if_neg hid]⟩
          clear HS
          go_wp2_with fail
          refine ⟨⟨1, by omega, rfl, ?_⟩, by simp only [intOf]; omega⟩
          refine ⟨?_, HJ.out.below, HJ.out.node, HJ.out.out, HJ.out.gi⟩
          rw [HT.out]; exact HJ.out.own
      · have i0 := fun a b c => idx3_1 a b c wr
        have HS : Aside0 (sortsTo G.l x 2 = if 0 < x.b then sortsTo G.l x 1 ++ [sortAt G.l x.b] else sortsTo G.l x 1) := ⟨sortsTo_succ G.l x 1 (by omega)⟩
        by_cases hid : 0 < x.b
        · obtain ⟨k, hk⟩ : ∃ k : Nat, x.b = (k : Int) + 1 := ⟨(x.b - 1).toNat, by omega⟩
          have hkl : k < G.l.length := by have := HF.out x.b (by simp [opds]) hid; omega
          obtain ⟨yy, hy⟩ : ∃ yy, G.l[k]? = some yy := ⟨_, List.getElem?_eq_getElem hkl⟩
          obtain ⟨bb, rfl, hcell⟩ := HJ.out.gi.node hy rfl
          have hs1 := hcell 1 _ rfl
          have hk2 : (k : Int) < (G.l.length : Int) := by omega
          have hw : wrap64 (x.b - 1) = (k : Int) := by unfold wrap64; omega
          have hgc := HJ.out.gi.cells.cell 1 _ rfl
          have HT : Aside0 (sortsTo G.l x 2 = sortsTo G.l x 1 ++ [yy.sort]) := ⟨by
            rw [HS.out, if_pos hid]
            congr 2
            show sortAt G.l x.b = _
            rw [hk]
            exact nodeSort hy⟩
          have hz := HJ.out.below.size
          have hln := sortsTo_len G.l x 1 (by omega)
          clear hcell hy hk HS
          go_wp2_with (at_builtin; (refine apl_at (w0 := w) _ w.heap.size (.tmp 98) (.tmp 108) 61 3 (.int .i64 0) 1 8 u7 (sortsTo G.l x 1).length ((sortsTo G.l x 1).map (Value.int .i64)) [.int .i64 yy.sort] ⟨wr.heap.size, 0, none⟩ 1 rfl rfl (news_one (Cells.new wr _ _)) Tryz.underlying61 Tryz.infoInt rfl (by decide) (by decide) (by rfl) (by rfl) rfl (by simp [Value.oneCell']) (HJ.out.own.alloc _) (HJ.out.below.alloc hz _) (Nat.le_trans hz (by simp)) (by omega) ?_; intro v1 w3 hown1 hB3 hg1 hat1; have HO1 := Aside0.mk hown1; have HB3 := Aside0.mk hB3; have HG1 := Aside0.mk hg1; clear hown1 hB3 hg1 hat1))
          refine ⟨⟨2, by omega, rfl, ?_⟩, by simp only [intOf]; omega⟩
          have hne : ∀ k, u7.ownBlock = some k → ∀ (l : List Value), ¬ Cells wr k 112 l := fun k hk l hl => own_ne_cells HJ.out.own hl (by decide) hk
          have hm : Mod (fun k => u7.ownBlock = some k) wr w3 := ((Mod.refl _ wr).alloc _).grown HG1.out (fun k hk => .inl hk)
          refine ⟨?_, HB3.out, HJ.out.node.keep hm (fun q => hne _ q _ HJ.out.node), HJ.out.out.keep hm (fun q => hne _ q _ HJ.out.out), HJ.out.gi.keep hm (fun j hj q z => ?_)⟩
          · rw [HT.out, List.length_append, List.map_append]; exact HO1.out
          · obtain ⟨l', hl'⟩ := own_cells HJ.out.own j q
            have hjb := own_base_le HJ.out.own j q
            rcases z with z | z | z | ⟨_, l2, hl2⟩
            · subst z; exact own_ne_cells HJ.out.own HJ.out.gi.cells (by decide) q
            · subst z
              obtain ⟨D, ⟨es, cl, hm1, _⟩, _⟩ := HJ.out.gi.ids
              unfold Cells at hl'; rw [hl'] at hm1; cases hm1
            · subst z
              obtain ⟨D, ⟨es, cl, hm1, _⟩, _⟩ := HJ.out.gi.names
              unfold Cells at hl'; rw [hl'] at hm1; cases hm1
            · exact hne j q l2 hl2
        · have HT : Aside0 (sortsTo G.l x 2 = sortsTo G.l x 1) := ⟨by rw [HS.out, if_neg hid]⟩
          clear HS
          go_wp2_with fail
          refine ⟨⟨2, by omega, rfl, ?_⟩, by simp only [intOf]; omega⟩
          refine ⟨?_, HJ.out.below, HJ.out.node, HJ.out.out, HJ.out.gi⟩
          rw [HT.out]; exact HJ.out.own
      · have i0 := fun a b c => idx3_2 a b c wr
        have HS : Aside0 (sortsTo G.l x 3 = if 0 < x.c then sortsTo G.l x 2 ++ [sortAt G.l x.c] else sortsTo G.l x 2) := ⟨sortsTo_succ G.l x 2 (by omega)⟩
        by_cases hid : 0 < x.c
        · obtain ⟨k, hk⟩ : ∃ k : Nat, x.c = (k : Int) + 1 := ⟨(x.c - 1).toNat, by omega⟩
          have hkl : k < G.l.length := by have := HF.out x.c (by simp [opds]) hid; omega
          obtain ⟨yy, hy⟩ : ∃ yy, G.l[k]? = some yy := ⟨_, List.getElem?_eq_getElem hkl⟩
          obtain ⟨bb, rfl, hcell⟩ := HJ.out.gi.node hy rfl
          have hs1 := hcell 1 _ rfl
          have hk2 : (k : Int) < (G.l.length : Int) := by omega
          have hw : wrap64 (x.c - 1) = (k : Int) := by unfold wrap64; omega
          have hgc := HJ.out.gi.cells.cell 1 _ rfl
          have HT : Aside0 (sortsTo G.l x 3 = sortsTo G.l x 2 ++ [yy.sort]) := ⟨by
            rw [HS.out, if_pos hid]
            congr 2
            show sortAt G.l x.c = _
            rw [hk]
            exact nodeSort hy⟩
          have hz := HJ.out.below.size
          have hln := sortsTo_len G.l x 2 (by omega)
          clear hcell hy hk HS
          go_wp2_with (at_builtin; (refine apl_at (w0 := w) _ w.heap.size (.tmp 98) (.tmp 108) 61 3 (.int .i64 0) 1 8 u7 (sortsTo G.l x 2).length ((sortsTo G.l x 2).map (Value.int .i64)) [.int .i64 yy.sort] ⟨wr.heap.size, 0, none⟩ 1 rfl rfl (news_one (Cells.new wr _ _)) Tryz.underlying61 Tryz.infoInt rfl (by decide) (by decide) (by rfl) (by rfl) rfl (by simp [Value.oneCell']) (HJ.out.own.alloc _) (HJ.out.below.alloc hz _) (Nat.le_trans hz (by simp)) (by omega) ?_; intro v1 w3 hown1 hB3 hg1 hat1; have HO1 := Aside0.mk hown1; have HB3 := Aside0.mk hB3; have HG1 := Aside0.mk hg1; clear hown1 hB3 hg1 hat1))
          refine ⟨⟨3, by omega, rfl, ?_⟩, by simp only [intOf]; omega⟩
          have hne : ∀ k, u7.ownBlock = some k → ∀ (l : List Value), ¬ Cells wr k 112 l := fun k hk l hl => own_ne_cells HJ.out.own hl (by decide) hk
          have hm : Mod (fun k => u7.ownBlock = some k) wr w3 := ((Mod.refl _ wr).alloc _).grown HG1.out (fun k hk => .inl hk)
          refine ⟨?_, HB3.out, HJ.out.node.keep hm (fun q => hne _ q _ HJ.out.node), HJ.out.out.keep hm (fun q => hne _ q _ HJ.out.out), HJ.out.gi.keep hm (fun j hj q z => ?_)⟩
          · rw [HT.out, List.length_append, List.map_append]; exact HO1.out
          · obtain ⟨l', hl'⟩ := own_cells HJ.out.own j q
            have hjb := own_base_le HJ.out.own j q
            rcases z with z | z | z | ⟨_, l2, hl2⟩
            · subst z; exact own_ne_cells HJ.out.own HJ.out.gi.cells (by decide) q
            · subst z
              obtain ⟨D, ⟨es, cl, hm1, _⟩, _⟩ := HJ.out.gi.ids
              unfold Cells at hl'; rw [hl'] at hm1; cases hm1
            · subst z
              obtain ⟨D, ⟨es, cl, hm1, _⟩, _⟩ := HJ.out.gi.names
              unfold Cells at hl'; rw [hl'] at hm1; cases hm1
            · exact hne j q l2 hl2
        · have HT : Aside0 (sortsTo G.l x 3 = sortsTo G.l x 2) := ⟨by rw [HS.out, if_neg hid]⟩
          clear HS
          go_wp2_with fail
          refine ⟨⟨3, by omega, rfl, ?_⟩, by simp only [intOf]; omega⟩
          refine ⟨?_, HJ.out.below, HJ.out.node, HJ.out.out, HJ.out.gi⟩
          rw [HT.out]; exact HJ.out.own
    · obtain rfl : i = 3 := by omega
      obtain ⟨SA, sc, rfl, hsc, hsC⟩ := ints_C HJ.out.own
      have HSC := Aside0.mk hsC
      have hl3 := sortsTo_len G.l x 3 (by omega)
      have HRS : Aside0 (sortsTo G.l x 3 = sortsOf G.l x) := ⟨rfl⟩
      clear hsC
      have z0 := HJ.out.node.cell 0 _ rfl
      have z5 := HJ.out.node.cell 5 _ rfl
      have z6 := HJ.out.node.cell 6 _ rfl
      go_upto_region 20 with (fail)
      go_wp2_with fail
      refine (Sort_any x.op x.p x.q (sortsTo G.l x 3) SA sc _ hl3 hsc HSC.out).mono ?_
      rintro e w1 ⟨rfl, hB⟩
      rw [HRS.out]
      obtain ⟨n, hn⟩ : ∃ n, (sortOf x.op x.p x.q (sortsOf G.l x)).1 = n := ⟨_, rfl⟩
      obtain ⟨er, her⟩ : ∃ n, (sortOf x.op x.p x.q (sortsOf G.l x)).2 = n := ⟨_, rfl⟩
      have hR := HR.out
      rw [hn, her] at hR ⊢
      subst hR
      have HC5 := Aside0.mk (HJ.out.node.below hB)
      have HC6 := Aside0.mk (HJ.out.out.below hB)
      have HB6 := Aside0.mk (HJ.out.below.trans (hB.mono HJ.out.below.size))
      clear hB hn her z0 z5 z6
      have z1 := HC5.out.cell 1 _ rfl
      have g1 := HC5.out.frozen 1
      have HC7 := Aside0.mk (HC5.out.set 1 (.int .i64 n))
      have HC8 := Aside0.mk (HC6.out.far (p := ⟨w.heap.size, 1, none⟩) (by simp) (.int .i64 n))
      have HB8 := Aside0.mk (HB6.out.setCell (p := ⟨w.heap.size, 1, none⟩) (Nat.le_refl _) (.int .i64 n))
      clear y0 y2 y3 y4
      have y0 := HC7.out.cell 0 _ rfl
      have y1 := HC7.out.cell 1 _ rfl
      have y2 := HC7.out.cell 2 _ rfl
      have y3 := HC7.out.cell 3 _ rfl
      have y4 := HC7.out.cell 4 _ rfl
      have y5 := HC7.out.cell 5 _ rfl
      have y6 := HC7.out.cell 6 _ rfl
      have y7 := HC7.out.cell 7 _ rfl
      have y8 := HC7.out.cell 8 _ rfl
      have y9 := HC7.out.cell 9 _ rfl
      have y10 := HC7.out.cell 10 _ rfl
      have z0 := HC8.out.cell 0 _ rfl
      have z1 := HC8.out.cell 1 _ rfl
      have z2 := HC8.out.cell 2 _ rfl
      have z3 := HC8.out.cell 3 _ rfl
      have z4 := HC8.out.cell 4 _ rfl
      have z5 := HC8.out.cell 5 _ rfl
      have z6 := HC8.out.cell 6 _ rfl
      have z7 := HC8.out.cell 7 _ rfl
      have z8 := HC8.out.cell 8 _ rfl
      have z9 := HC8.out.cell 9 _ rfl
      have z10 := HC8.out.cell 10 _ rfl
      have f0 := HC8.out.frozen 0
      have f1 := HC8.out.frozen 1
      have f2 := HC8.out.frozen 2
      have f3 := HC8.out.frozen 3
      have f4 := HC8.out.frozen 4
      have f5 := HC8.out.frozen 5
      have f6 := HC8.out.frozen 6
      have f7 := HC8.out.frozen 7
      have f8 := HC8.out.frozen 8
      have f9 := HC8.out.frozen 9
      have f10 := HC8.out.frozen 10
      go_wp2_with fail
      refine node_ret rfl rfl HC8.out HB8.out (by omega) rfl rfl (fun w' hb => ⟨?_, hb⟩)
      rfl
theorem formed_ops {n : Nat} {x : Nd} (h : formedV n x = true) : ∀ id ∈ opds x, 0 < id → id ≤ (n : Int) := by
  unfold formedV at h
  simp only [Bool.and_eq_true] at h
  obtain ⟨⟨⟨⟨⟨h1, h2⟩, h3⟩, _⟩, _⟩, _⟩ := h
  intro id hid hp
  simp only [opds, List.mem_cons, List.not_mem_nil, or_false] at hid
  rcases hid with rfl | rfl | rfl
  · exact okOp_range h1 hp
  · exact okOp_range h2 hp
  · exact okOp_range h3 hp
theorem sorted_any (B g bi bn : Nat) (G : Gr) (vn : Value) (x : Nd) (w : World) (h : GI w B g G vn bi bn) (hx : x.Wf) (hf : formedV G.l.length x = true) :
    Calls Tryz.prog 100 #[.pointer (some ⟨g, 0, none⟩), .agg x.cells.toArray] w fun e w' => e = .returned (.tuple #[.agg (sortedV G.l x).1.cells.toArray, .int .i64 (sortedV G.l x).2]) ∧ Below w.heap.size w w' := by
  by_cases h1 : x.op = 1
  · exact sorted_const B g bi bn G vn x w h hx h1
  · by_cases h2 : x.op = 2
    · exact sorted_var B g bi bn G vn x w h hx h2
    · exact sorted_op B g bi bn G vn x w h hx h1 h2 (formed_ops hf)
theorem getD_range {l : List Int} (h : (l.any fun s => !isSort s) = false) (i : Nat) : 0 ≤ l.getD i 0 ∧ l.getD i 0 ≤ 128 := by
  rw [List.getD_eq_getElem?_getD]
  cases hi : l[i]? with
  | none => simp
  | some s =>
    have hm := List.mem_of_getElem? hi
    rw [List.any_eq_false] at h
    have := h s hm
    simp [isSort] at this
    simpa using this
theorem numb_range {op p q x n : Int} (hx : 0 ≤ x) (h : numbV op p q x = some n) : 0 ≤ n := by
  unfold numbV at h
  repeat' (split at h)
  all_goals first
    | (cases h; omega)
    | (cases h; exact Int.mul_nonneg hx (by omega))
    | cases h
theorem told_range {op p q n : Int} {l : List Int} (hl : (l.any fun s => !isSort s) = false) (h : toldV op p q l = some n) : 0 ≤ n := by
  have h0 := getD_range hl 0
  have h1 := getD_range hl (l.length - 1)
  unfold toldV at h
  simp only at h
  repeat' (split at h)
  all_goals first
    | (cases h; omega)
    | exact numb_range h0.1 h
    | cases h
theorem sortOf_range (op p q : Int) (l : List Int) : 0 ≤ (sortOf op p q l).1 ∧ (sortOf op p q l).1 ≤ 128 := by
  unfold sortOf
  split
  · simp
  · split
    · simp
    · rename_i h2
      have hl : (l.any fun s => !isSort s) = false := by
        cases hq : (l.any fun s => !isSort s) with
        | false => rfl
        | true => exact absurd (.inr hq) h2
      split
      · simp
      · rename_i n hn
        have := told_range hl hn
        split
        · simp
        · simp only; omega
theorem sorted_wf {l : List Nd} {x : Nd} (h : x.Wf) : (sortedV l x).1.Wf := by
  unfold sortedV
  split
  · split <;> exact h
  · split
    · repeat' split
      all_goals exact h
    · have := sortOf_range x.op x.p x.q (sortsOf l x)
      exact ⟨h.op, by unfold i64ok; simp only; omega, h.a, h.b, h.c, h.p, h.q, h.w, h.lo, h.hi, h.name⟩
end Go.Proofs.YthhnhbpmpdminaaGreatDoor
