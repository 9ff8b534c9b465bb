/-
Several texts as one: Gso Gsv.
-/
import Derived.Test.YthhnhbpmpdminaaGreatDoorXK
/-
term: sorted. Conditions: the graph in memory.
-/
namespace Go.Proofs.YthhnhbpmpdminaaGreatDoor
set_option maxRecDepth 4096
set_option maxHeartbeats 8000000
set_option linter.unusedSimpArgs false
set_option linter.unusedVariables false
set_option linter.unnecessarySimpa false
open Go.RowKit Go.Proofs.YthhnhbpmpdminaaGreatDoorW.PrintWords Go.Maps
/-- A node is stored, and handed back with a number. -/
theorem node_ret {fn : Func} {p q : Tmp} (hf : fn.results = #[.cell p 112, .tmp q]) {tmps : Array Value} {d : List Deferred} (hd : d = []) {w w0 : World} {B g : Nat} {y : Nd} (h : Cells w g 112 y.cells) (hb : Below B w0 w) (hg : B ≤ g) {v0 v1 v2 v3 v4 v5 v6 v7 v8 v9 : Int} {v10 : ByteArray} {v : Value} {R : Ending → World → Prop}
    (hp : tmps.getD p undef = .pointer (some ⟨g, 0, none⟩)) (hq : tmps.getD q undef = v) (hR : ∀ w', Below B w0 w' → R (.returned (.tuple #[.agg #[.int .i64 v0, .int .i64 v1, .int .i64 v2, .int .i64 v3, .int .i64 v4, .int .i64 v5, .int .i64 v6, .int .i64 v7, .int .u64 v8, .int .u64 v9, .string v10], v])) w') :
    bodyPost Tryz.prog fn R .ret ⟨tmps, d⟩ (((((((((((w.setCell ⟨g, 0, none⟩ (.int .i64 v0)).setCell ⟨g, 1, none⟩ (.int .i64 v1)).setCell ⟨g, 2, none⟩ (.int .i64 v2)).setCell ⟨g, 3, none⟩ (.int .i64 v3)).setCell ⟨g, 4, none⟩ (.int .i64 v4)).setCell ⟨g, 5, none⟩ (.int .i64 v5)).setCell ⟨g, 6, none⟩ (.int .i64 v6)).setCell ⟨g, 7, none⟩ (.int .i64 v7)).setCell ⟨g, 8, none⟩ (.int .u64 v8)).setCell ⟨g, 9, none⟩ (.int .u64 v9)).setCell ⟨g, 10, none⟩ (.string v10)) := by
  have HF : Cells (((((((((((w.setCell ⟨g, 0, none⟩ (.int .i64 v0)).setCell ⟨g, 1, none⟩ (.int .i64 v1)).setCell ⟨g, 2, none⟩ (.int .i64 v2)).setCell ⟨g, 3, none⟩ (.int .i64 v3)).setCell ⟨g, 4, none⟩ (.int .i64 v4)).setCell ⟨g, 5, none⟩ (.int .i64 v5)).setCell ⟨g, 6, none⟩ (.int .i64 v6)).setCell ⟨g, 7, none⟩ (.int .i64 v7)).setCell ⟨g, 8, none⟩ (.int .u64 v8)).setCell ⟨g, 9, none⟩ (.int .u64 v9)).setCell ⟨g, 10, none⟩ (.string v10)) g 112 [.int .i64 v0, .int .i64 v1, .int .i64 v2, .int .i64 v3, .int .i64 v4, .int .i64 v5, .int .i64 v6, .int .i64 v7, .int .u64 v8, .int .u64 v9, .string v10] := (((((((((((h.set 0 (.int .i64 v0)).set 1 (.int .i64 v1)).set 2 (.int .i64 v2)).set 3 (.int .i64 v3)).set 4 (.int .i64 v4)).set 5 (.int .i64 v5)).set 6 (.int .i64 v6)).set 7 (.int .i64 v7)).set 8 (.int .u64 v8)).set 9 (.int .u64 v9)).set 10 (.string v10))
  have HB : Below B w0 (((((((((((w.setCell ⟨g, 0, none⟩ (.int .i64 v0)).setCell ⟨g, 1, none⟩ (.int .i64 v1)).setCell ⟨g, 2, none⟩ (.int .i64 v2)).setCell ⟨g, 3, none⟩ (.int .i64 v3)).setCell ⟨g, 4, none⟩ (.int .i64 v4)).setCell ⟨g, 5, none⟩ (.int .i64 v5)).setCell ⟨g, 6, none⟩ (.int .i64 v6)).setCell ⟨g, 7, none⟩ (.int .i64 v7)).setCell ⟨g, 8, none⟩ (.int .u64 v8)).setCell ⟨g, 9, none⟩ (.int .u64 v9)).setCell ⟨g, 10, none⟩ (.string v10)) := (((((((((((hb.setCell (p := ⟨g, 0, none⟩) hg (.int .i64 v0)).setCell (p := ⟨g, 1, none⟩) hg (.int .i64 v1)).setCell (p := ⟨g, 2, none⟩) hg (.int .i64 v2)).setCell (p := ⟨g, 3, none⟩) hg (.int .i64 v3)).setCell (p := ⟨g, 4, none⟩) hg (.int .i64 v4)).setCell (p := ⟨g, 5, none⟩) hg (.int .i64 v5)).setCell (p := ⟨g, 6, none⟩) hg (.int .i64 v6)).setCell (p := ⟨g, 7, none⟩) hg (.int .i64 v7)).setCell (p := ⟨g, 8, none⟩) hg (.int .u64 v8)).setCell (p := ⟨g, 9, none⟩) hg (.int .u64 v9)).setCell (p := ⟨g, 10, none⟩) hg (.string v10))
  exact bodyPost_ret (results_cell_tmp hf _ _ g 112 #[.int .i64 v0, .int .i64 v1, .int .i64 v2, .int .i64 v3, .int .i64 v4, .int .i64 v5, .int .i64 v6, .int .i64 v7, .int .u64 v8, .int .u64 v9, .string v10] (0, 0) _ v hp hq HF Tryz.underlying112 rfl (by kernel_rfl)) hd (hR _ HB)
/-- .. and two draws. -/
theorem node_ret2 {fn : Func} {p q : Tmp} (hf : fn.results = #[.cell p 112, .tmp q]) {tmps : Array Value} {d : List Deferred} (hd : d = []) {w w0 : World} {B g : Nat} {y : Nd} (h : Cells w g 112 y.cells) (hb : Below B w0 w) (hg : B ≤ g) {v0 v1 v2 v3 v4 v5 v6 v7 v8 v9 : Int} {v10 : ByteArray} {v : Value} {R : Ending → World → Prop}
    (hp : tmps.getD p undef = .pointer (some ⟨g, 0, none⟩)) (hq : tmps.getD q undef = v) (hR : ∀ w', Below B w0 w' → R (.returned (.tuple #[.agg #[.int .i64 v0, .int .i64 v1, .int .i64 v2, .int .i64 v3, .int .i64 v4, .int .i64 v5, .int .i64 v6, .int .i64 v7, .int .u64 v8, .int .u64 v9, .string v10], v])) w') :
    bodyPost Tryz.prog fn R .ret ⟨tmps, d⟩ ((((((((((((w.setCell ⟨g, 0, none⟩ (.int .i64 v0)).setCell ⟨g, 1, none⟩ (.int .i64 v1)).setCell ⟨g, 2, none⟩ (.int .i64 v2)).setCell ⟨g, 3, none⟩ (.int .i64 v3)).setCell ⟨g, 4, none⟩ (.int .i64 v4)).setCell ⟨g, 5, none⟩ (.int .i64 v5)).setCell ⟨g, 6, none⟩ (.int .i64 v6)).setCell ⟨g, 7, none⟩ (.int .i64 v7)).setCell ⟨g, 8, none⟩ (.int .u64 v8)).setCell ⟨g, 9, none⟩ (.int .u64 v9)).setCell ⟨g, 10, none⟩ (.string v10))).drew.drew := by
  have HF : Cells (((((((((((w.setCell ⟨g, 0, none⟩ (.int .i64 v0)).setCell ⟨g, 1, none⟩ (.int .i64 v1)).setCell ⟨g, 2, none⟩ (.int .i64 v2)).setCell ⟨g, 3, none⟩ (.int .i64 v3)).setCell ⟨g, 4, none⟩ (.int .i64 v4)).setCell ⟨g, 5, none⟩ (.int .i64 v5)).setCell ⟨g, 6, none⟩ (.int .i64 v6)).setCell ⟨g, 7, none⟩ (.int .i64 v7)).setCell ⟨g, 8, none⟩ (.int .u64 v8)).setCell ⟨g, 9, none⟩ (.int .u64 v9)).setCell ⟨g, 10, none⟩ (.string v10)) g 112 [.int .i64 v0, .int .i64 v1, .int .i64 v2, .int .i64 v3, .int .i64 v4, .int .i64 v5, .int .i64 v6, .int .i64 v7, .int .u64 v8, .int .u64 v9, .string v10] := (((((((((((h.set 0 (.int .i64 v0)).set 1 (.int .i64 v1)).set 2 (.int .i64 v2)).set 3 (.int .i64 v3)).set 4 (.int .i64 v4)).set 5 (.int .i64 v5)).set 6 (.int .i64 v6)).set 7 (.int .i64 v7)).set 8 (.int .u64 v8)).set 9 (.int .u64 v9)).set 10 (.string v10))
  have HB : Below B w0 (((((((((((w.setCell ⟨g, 0, none⟩ (.int .i64 v0)).setCell ⟨g, 1, none⟩ (.int .i64 v1)).setCell ⟨g, 2, none⟩ (.int .i64 v2)).setCell ⟨g, 3, none⟩ (.int .i64 v3)).setCell ⟨g, 4, none⟩ (.int .i64 v4)).setCell ⟨g, 5, none⟩ (.int .i64 v5)).setCell ⟨g, 6, none⟩ (.int .i64 v6)).setCell ⟨g, 7, none⟩ (.int .i64 v7)).setCell ⟨g, 8, none⟩ (.int .u64 v8)).setCell ⟨g, 9, none⟩ (.int .u64 v9)).setCell ⟨g, 10, none⟩ (.string v10)) := (((((((((((hb.setCell (p := ⟨g, 0, none⟩) hg (.int .i64 v0)).setCell (p := ⟨g, 1, none⟩) hg (.int .i64 v1)).setCell (p := ⟨g, 2, none⟩) hg (.int .i64 v2)).setCell (p := ⟨g, 3, none⟩) hg (.int .i64 v3)).setCell (p := ⟨g, 4, none⟩) hg (.int .i64 v4)).setCell (p := ⟨g, 5, none⟩) hg (.int .i64 v5)).setCell (p := ⟨g, 6, none⟩) hg (.int .i64 v6)).setCell (p := ⟨g, 7, none⟩) hg (.int .i64 v7)).setCell (p := ⟨g, 8, none⟩) hg (.int .u64 v8)).setCell (p := ⟨g, 9, none⟩) hg (.int .u64 v9)).setCell (p := ⟨g, 10, none⟩) hg (.string v10))
  exact bodyPost_ret (results_cell_tmp hf _ _ g 112 #[.int .i64 v0, .int .i64 v1, .int .i64 v2, .int .i64 v3, .int .i64 v4, .int .i64 v5, .int .i64 v6, .int .i64 v7, .int .u64 v8, .int .u64 v9, .string v10] (0, 0) _ v hp hq HF.drew.drew Tryz.underlying112 rfl (by kernel_rfl)) hd (hR _ HB.drew.drew)
theorem sorted_const (B g bi bn : Nat) (G : Gr) (vn : Value) (x : Nd) (w : World) (h : GI w B g G vn bi bn) (hx : x.Wf) (ho : x.op = 1) :
    Calls Tryz.prog 100 #[.pointer (some ⟨g, 0, none⟩), .agg x.cells.toArray] w fun e w' => e = .returned (.tuple #[.agg (sortedV G.l x).1.cells.toArray, .int .i64 (sortedV G.l x).2]) ∧ Below w.heap.size w w' := by
  obtain ⟨R, hR⟩ : ∃ b, sortedV G.l x = b := ⟨_, rfl⟩
  rw [hR]
  unfold sortedV at hR
  rw [if_pos ho] at hR
  have HR := Aside0.mk hR
  clear hR
  have HX := Aside0.mk hx
  obtain ⟨w0, hw0⟩ : ∃ w0, (w.alloc (.cells x.cells.toArray 112)).alloc (.cells nd0.cells.toArray 112) = w0 := ⟨_, rfl⟩
  have HC1 : Aside0 (Cells w0 w.heap.size 112 x.cells) := ⟨by rw [← hw0]; exact (Cells.new w _ _).alloc _⟩
  have HC2 : Aside0 (Cells w0 (w.heap.size + 1) 112 nd0.cells) := ⟨by rw [← hw0]; have := Cells.new (w.alloc (.cells x.cells.toArray 112)) 112 nd0.cells; simpa using this⟩
  have HB : Aside0 (Below w.heap.size w w0) := ⟨by rw [← hw0]; exact ((Below.refl _ w).alloc (Nat.le_refl _) _).alloc (by simp) _⟩
  have e0 : w0 = (w.alloc (.cells #[.int .i64 x.op, .int .i64 x.sort, .int .i64 x.a, .int .i64 x.b, .int .i64 x.c, .int .i64 x.p, .int .i64 x.q, .int .i64 x.w, .int .u64 x.lo, .int .u64 x.hi, .string x.name] 112)).alloc (.cells #[.int .i64 0, .int .i64 0, .int .i64 0, .int .i64 0, .int .i64 0, .int .i64 0, .int .i64 0, .int .i64 0, .int .u64 0, .int .u64 0, .string ⟨#[]⟩] 112) := hw0.symm
  have x0 : w0.cell? ⟨w.heap.size, 0, none⟩ = some (.int .i64 1) := by
    have := HC1.out.cell 0 _ rfl
    rw [ho] at this
    exact this
  have HO := Aside0.mk ho
  clear ho
  have x1 := HC1.out.cell 1 _ rfl
  have x5 := HC1.out.cell 5 _ rfl
  have x6 := HC1.out.cell 6 _ rfl
  have x7 := HC1.out.cell 7 _ rfl
  have x8 := HC1.out.cell 8 _ rfl
  have x9 := HC1.out.cell 9 _ rfl
  clear h hx hw0
  unfold Nd.cells
  go_enter Tryz.func100, Tryz.ntmps100
  go_upto_region 1 with (fail)
  rw [← e0]
  clear e0
  go_wp2_with fail
  refine (Right_any _ _ _ _ HX.out.w HX.out.lo HX.out.hi).mono ?_
  rintro e w1 ⟨rfl, hB⟩
  have HC3 := Aside0.mk (HC1.out.below hB)
  have HC4 := Aside0.mk (HC2.out.below hB)
  have HB1 := Aside0.mk (HB.out.trans (hB.mono HB.out.size))
  clear hB
  obtain ⟨b, hb⟩ : ∃ b, rightV x.w x.lo x.hi = b := ⟨_, rfl⟩
  rw [hb]
  have HN := Aside0.mk hb
  clear hb x0 x1 x5 x6 x7 x8 x9
  have y : ∀ i v, x.cells[i]? = some v → w1.cell? ⟨w.heap.size, i, none⟩ = some v := fun i v hv => HC3.out.cell i v hv
  have z : ∀ i v, nd0.cells[i]? = some v → w1.cell? ⟨w.heap.size + 1, i, none⟩ = some v := fun i v hv => HC4.out.cell i v hv
  have y0 := y 0 _ rfl
  have y1 := y 1 _ rfl
  have y2 := y 2 _ rfl
  have y3 := y 3 _ rfl
  have y4 := y 4 _ rfl
  have y5 := y 5 _ rfl
  have y6 := y 6 _ rfl
  have y7 := y 7 _ rfl
  have y8 := y 8 _ rfl
  have y9 := y 9 _ rfl
  have y10 := y 10 _ rfl
  have z0 := z 0 _ rfl
  have z1 := z 1 _ rfl
  have z2 := z 2 _ rfl
  have z3 := z 3 _ rfl
  have z4 := z 4 _ rfl
  have z5 := z 5 _ rfl
  have z6 := z 6 _ rfl
  have z7 := z 7 _ rfl
  have z8 := z 8 _ rfl
  have z9 := z 9 _ rfl
  have z10 := z 10 _ rfl
  have f0 := HC4.out.frozen 0
  have f1 := HC4.out.frozen 1
  have f2 := HC4.out.frozen 2
  have f3 := HC4.out.frozen 3
  have f4 := HC4.out.frozen 4
  have f5 := HC4.out.frozen 5
  have f6 := HC4.out.frozen 6
  have f7 := HC4.out.frozen 7
  have f8 := HC4.out.frozen 8
  have f9 := HC4.out.frozen 9
  have f10 := HC4.out.frozen 10
  clear y z
  cases b
  all_goals (go_wp2_with fail)
  all_goals (
    refine node_ret rfl rfl HC4.out HB1.out (by omega) rfl rfl (fun w' hb => ⟨?_, hb⟩)
    have hR := HR.out
    have hN := HN.out
    clear hb HR
    by_cases hc : rightV x.w x.lo x.hi = true ∧ x.w = x.sort ∧ x.p = 0 ∧ x.q = 0
    · rw [if_pos hc] at hR
      subst hR
      obtain ⟨k1, k2, k3, k4⟩ := hc
      first | (simp [*]; done) | (exfalso; simp_all)
    · rw [if_neg hc] at hR
      subst hR
      first | (exfalso; apply hc; simp_all; done) | (clear hc; simp [*]; done))
end Go.Proofs.YthhnhbpmpdminaaGreatDoor
/-
term: sorted, of a variable. Conditions: the graph in memory.
-/
namespace Go.Proofs.YthhnhbpmpdminaaGreatDoor
set_option maxRecDepth 4096
set_option maxHeartbeats 8000000
set_option linter.unusedSimpArgs false
set_option linter.unusedVariables false
set_option linter.unnecessarySimpa false
open Go.RowKit Go.Proofs.YthhnhbpmpdminaaGreatDoorW.PrintWords Go.Maps
theorem nodeSort {l : List Nd} {k : Nat} {y : Nd} (h : l[k]? = some y) : sortAt l ((k + 1 : Nat) : Int) = y.sort := by
  unfold sortAt
  rw [show (((k + 1 : Nat) : Int) - 1).toNat = k by omega, h]
set_option maxHeartbeats 40000000 in
theorem sorted_var (B g bi bn : Nat) (G : Gr) (vn : Value) (x : Nd) (w : World) (h : GI w B g G vn bi bn) (hx : x.Wf) (ho : x.op = 2) :
    Calls Tryz.prog 100 #[.pointer (some ⟨g, 0, none⟩), .agg x.cells.toArray] w fun e w' => e = .returned (.tuple #[.agg (sortedV G.l x).1.cells.toArray, .int .i64 (sortedV G.l x).2]) ∧ Below w.heap.size w w' := by
  obtain ⟨A, cap, rfl, hc1, hc2⟩ := h.form
  obtain ⟨R, hR⟩ : ∃ b, sortedV G.l x = b := ⟨_, rfl⟩
  rw [hR]
  unfold sortedV at hR
  rw [if_neg (by omega), if_pos ho] at hR
  have HR := Aside0.mk hR
  clear hR
  have HX := Aside0.mk hx
  obtain ⟨w0, hw0⟩ : ∃ w0, (w.alloc (.cells x.cells.toArray 112)).alloc (.cells nd0.cells.toArray 112) = w0 := ⟨_, rfl⟩
  have HC3 : Aside0 (Cells w0 w.heap.size 112 x.cells) := ⟨by rw [← hw0]; exact (Cells.new w _ _).alloc _⟩
  have HC4 : Aside0 (Cells w0 (w.heap.size + 1) 112 nd0.cells) := ⟨by rw [← hw0]; have := Cells.new (w.alloc (.cells x.cells.toArray 112)) 112 nd0.cells; simpa using this⟩
  have HB : Aside0 (Below w.heap.size w w0) := ⟨by rw [← hw0]; exact ((Below.refl _ w).alloc (Nat.le_refl _) _).alloc (by simp) _⟩
  have HG := Aside0.mk (h.below HB.out)
  have e0 : w0 = (w.alloc (.cells #[.int .i64 x.op, .int .i64 x.sort, .int .i64 x.a, .int .i64 x.b, .int .i64 x.c, .int .i64 x.p, .int .i64 x.q, .int .i64 x.w, .int .u64 x.lo, .int .u64 x.hi, .string x.name] 112)).alloc (.cells #[.int .i64 0, .int .i64 0, .int .i64 0, .int .i64 0, .int .i64 0, .int .i64 0, .int .i64 0, .int .i64 0, .int .u64 0, .int .u64 0, .string ⟨#[]⟩] 112) := hw0.symm
  have y : ∀ i v, x.cells[i]? = some v → w0.cell? ⟨w.heap.size, i, none⟩ = some v := fun i v hv => HC3.out.cell i v hv
  have z : ∀ i v, nd0.cells[i]? = some v → w0.cell? ⟨w.heap.size + 1, i, none⟩ = some v := fun i v hv => HC4.out.cell i v hv
  have y0 : w0.cell? ⟨w.heap.size, 0, none⟩ = some (.int .i64 2) := by
    have := y 0 _ rfl
    rw [ho] at this
    exact this
  have y1 := y 1 _ rfl
  have y2 := y 2 _ rfl
  have y3 := y 3 _ rfl
  have y4 := y 4 _ rfl
  have y5 := y 5 _ rfl
  have y6 := y 6 _ rfl
  have y7 := y 7 _ rfl
  have y8 := y 8 _ rfl
  have y9 := y 9 _ rfl
  have y10 := y 10 _ rfl
  have z0 := z 0 _ rfl
  have z1 := z 1 _ rfl
  have z2 := z 2 _ rfl
  have z3 := z 3 _ rfl
  have z4 := z 4 _ rfl
  have z5 := z 5 _ rfl
  have z6 := z 6 _ rfl
  have z7 := z 7 _ rfl
  have z8 := z 8 _ rfl
  have z9 := z 9 _ rfl
  have z10 := z 10 _ rfl
  have f0 := HC4.out.frozen 0
  have f1 := HC4.out.frozen 1
  have f2 := HC4.out.frozen 2
  have f3 := HC4.out.frozen 3
  have f4 := HC4.out.frozen 4
  have f5 := HC4.out.frozen 5
  have f6 := HC4.out.frozen 6
  have f7 := HC4.out.frozen 7
  have f8 := HC4.out.frozen 8
  have f9 := HC4.out.frozen 9
  have f10 := HC4.out.frozen 10
  have HO := Aside0.mk ho
  clear y z h hx hw0 ho
  unfold Nd.cells
  go_enter Tryz.func100, Tryz.ntmps100
  go_upto_region 1 with (fail)
  rw [← e0]
  clear e0
  go_wp2_with fail
  refine (tsort_any _ _).mono ?_
  rintro e w1 ⟨rfl, rfl⟩
  obtain ⟨b, hb⟩ : ∃ b, isSort x.sort = b := ⟨_, rfl⟩
  rw [hb]
  have HN := Aside0.mk hb
  clear hb
  cases b
  · have hR := HR.out
    rw [if_pos (.inl HN.out)] at hR
    subst hR
    go_wp2_with fail
    refine node_ret rfl rfl HC4.out HB.out (by omega) rfl rfl (fun w' hb => ⟨?_, hb⟩)
    simp [HO.out, *]
  · by_cases hp : x.p = 0
    · by_cases hq : x.q = 0
      · have hR := HR.out
        rw [if_neg (by rw [HN.out, hp, hq]; simp)] at hR
        have HR := Aside0.mk hR
        have HP := Aside0.mk hp
        have HQ := Aside0.mk hq
        rw [hp] at y5
        rw [hq] at y6
        clear hR hp hq
        obtain ⟨D, hD, hN⟩ := HG.out.names
        have hkey := WideMaps.keyOf_string_mk (P := Tryz.prog) Tryz.underlying9 HX.out.name
        have q1 := HG.out.cells.cell 1 _ rfl
        have q3 := HG.out.cells.cell 3 _ rfl
        obtain ⟨c, hrun, hat, _⟩ := (World.ownsMap.drew hD).lookup_int strLaw Tryz.underlying121 Tryz.underlying3 (Tryz.zeroInt _) hkey
        obtain ⟨n, hn⟩ : ∃ n, nix G.l x.name = n := ⟨_, rfl⟩
        have hc : c = (n : Int) := by
          have := hat.symm.trans (hN x.name HX.out.name)
          rw [hn] at this
          simpa using this
        subst hc
        have HD := Aside0.mk hD
        have HK := Aside0.mk hn
        have hR := HR.out
        rw [hn] at hR
        have HR := Aside0.mk hR
        clear hat hD hN hkey hn hR
        go_upto_region 9 with (fail)
        refine wp_plan [(0, 0), (0, 1), (0, 2), (0, 4), (1, 3), (1, 5), (1, 6), (0, 7)] (fun w' => w' = _) (by kernel_rfl) (by kernel_rfl) (fun _ _ d _ _ h => by cases d <;> exact h) rfl ?_
        simp only [planOps, List.filterMap_cons, List.filterMap_nil, List.getElem?_toArray, List.getElem?_cons_zero, List.getElem?_cons_succ, Option.map_some]
        repeat (first
          | (refine' plan_pu _ (by rfl) (fun w' => ?_) ?_; rotate_left 1; (focus (go_simp; try (with_reducible rfl))); (try simp only [wrapi_0, wrapi_1, wrapi_2, wrapi_3, wrapi_4, wrapi_0]); simp only [Act.put, List.setIfInBounds_toArray, List.set_cons_zero, List.set_cons_succ])
          | (refine' plan_off (by rfl) ?_; (try simp only [wrapi_0, wrapi_1, wrapi_2, wrapi_3, wrapi_4, wrapi_0]); simp only [Act.put, List.setIfInBounds_toArray, List.set_cons_zero, List.set_cons_succ])
          | (refine' plan_offL (by rfl) ?_; (try simp only [wrapi_0, wrapi_1, wrapi_2, wrapi_3, wrapi_4, wrapi_0]); simp only [Act.put, List.setIfInBounds_toArray, List.set_cons_zero, List.set_cons_succ])
          | (refine' plan_ld _ (by rfl) (fun w' hSw => ?_) ?_; rotate_left 1; (focus (subst hSw; go_simp; try (with_reducible rfl))); (try simp only [wrapi_0, wrapi_1, wrapi_2, wrapi_3, wrapi_4, wrapi_0]); simp only [Act.put, List.setIfInBounds_toArray, List.set_cons_zero, List.set_cons_succ]))
        refine plan_nil ?_
        clear hrun
        by_cases he : x.name.size = 0
        · have hR := HR.out
          rw [if_pos (.inl he)] at hR
          subst hR
          have hE : x.name.toList.isEmpty = true := by rw [isEmpty_size]; simp [he]
          go_upto_region 10 with (fail)
          refine wp_plan [(0, 0), (1, 1), (0, 2), (0, 3), (0, 4), (0, 5), (0, 6), (0, 7), (0, 8), (0, 9), (0, 11), (0, 12), (0, 16), (1, 10), (0, 13), (0, 14), (1, 15), (1, 17), (0, 18), (0, 19), (0, 20)] (fun w' => w' = _) (by kernel_rfl) (by kernel_rfl) (fun _ _ d _ _ h => by cases d <;> exact h) rfl ?_
          simp only [planOps, List.filterMap_cons, List.filterMap_nil, List.getElem?_toArray, List.getElem?_cons_zero, List.getElem?_cons_succ, Option.map_some]
          repeat (first
            | (refine' plan_pu _ (by rfl) (fun w' => ?_) ?_; rotate_left 1; (focus (go_simp; try (with_reducible rfl))); (try simp only [wrapi_0, wrapi_1, wrapi_2, wrapi_3, wrapi_4, wrapi_0]); simp only [Act.put, List.setIfInBounds_toArray, List.set_cons_zero, List.set_cons_succ])
            | (refine' plan_off (by rfl) ?_; (try simp only [wrapi_0, wrapi_1, wrapi_2, wrapi_3, wrapi_4, wrapi_0]); simp only [Act.put, List.setIfInBounds_toArray, List.set_cons_zero, List.set_cons_succ])
            | (refine' plan_offL (by rfl) ?_; (try simp only [wrapi_0, wrapi_1, wrapi_2, wrapi_3, wrapi_4, wrapi_0]); simp only [Act.put, List.setIfInBounds_toArray, List.set_cons_zero, List.set_cons_succ])
            | (refine' plan_ld _ (by rfl) (fun w' hSw => ?_) ?_; rotate_left 1; (focus (subst hSw; go_simp; try (with_reducible rfl))); (try simp only [wrapi_0, wrapi_1, wrapi_2, wrapi_3, wrapi_4, wrapi_0]); simp only [Act.put, List.setIfInBounds_toArray, List.set_cons_zero, List.set_cons_succ]))
          refine plan_nil ?_
          go_wp2_with fail
          refine node_ret2 rfl rfl HC4.out HB.out (by omega) rfl rfl (fun w' hb => ⟨?_, hb⟩)
          (rw [HO.out, HP.out, HQ.out]; rfl)
        · have hE : x.name.toList.isEmpty = false := by rw [isEmpty_size]; simp [he]
          cases n with
          | zero =>
            have hR := HR.out
            rw [if_neg (by rintro (q | ⟨q, _⟩); exact he q; omega)] at hR
            subst hR
            go_upto_region 10 with (fail)
            refine wp_plan [(0, 0), (1, 1), (0, 2), (0, 3), (0, 4), (0, 5), (0, 6), (0, 7), (0, 8), (0, 9), (0, 11), (0, 12), (0, 16), (1, 10), (0, 13), (0, 14), (1, 15), (1, 17), (0, 18), (0, 19), (0, 20)] (fun w' => w' = _) (by kernel_rfl) (by kernel_rfl) (fun _ _ d _ _ h => by cases d <;> exact h) rfl ?_
            simp only [planOps, List.filterMap_cons, List.filterMap_nil, List.getElem?_toArray, List.getElem?_cons_zero, List.getElem?_cons_succ, Option.map_some]
            repeat (first
              | (refine' plan_pu _ (by rfl) (fun w' => ?_) ?_; rotate_left 1; (focus (go_simp; try (with_reducible rfl))); (try simp only [wrapi_0, wrapi_1, wrapi_2, wrapi_3, wrapi_4, wrapi_0]); simp only [Act.put, List.setIfInBounds_toArray, List.set_cons_zero, List.set_cons_succ])
              | (refine' plan_off (by rfl) ?_; (try simp only [wrapi_0, wrapi_1, wrapi_2, wrapi_3, wrapi_4, wrapi_0]); simp only [Act.put, List.setIfInBounds_toArray, List.set_cons_zero, List.set_cons_succ])
              | (refine' plan_offL (by rfl) ?_; (try simp only [wrapi_0, wrapi_1, wrapi_2, wrapi_3, wrapi_4, wrapi_0]); simp only [Act.put, List.setIfInBounds_toArray, List.set_cons_zero, List.set_cons_succ])
              | (refine' plan_ld _ (by rfl) (fun w' hSw => ?_) ?_; rotate_left 1; (focus (subst hSw; go_simp; try (with_reducible rfl))); (try simp only [wrapi_0, wrapi_1, wrapi_2, wrapi_3, wrapi_4, wrapi_0]); simp only [Act.put, List.setIfInBounds_toArray, List.set_cons_zero, List.set_cons_succ]))
            refine plan_nil ?_
            go_wp2_with fail
            refine node_ret2 rfl rfl HC4.out HB.out (by omega) rfl rfl (fun w' hb => ⟨?_, hb⟩)
            (rw [HO.out, HP.out, HQ.out]; rfl)
          | succ k =>
            obtain ⟨yy, hy, _, _⟩ := nix_get HK.out
            obtain ⟨bb, rfl, hcell⟩ := HG.out.node hy rfl
            have hs1 := hcell 1 _ rfl
            have hk : k < G.l.length := (List.getElem?_eq_some_iff.1 hy).1
            have hk2 : (k : Int) < (G.l.length : Int) := by omega
            have hw : IntKind.i64.wrap (((k + 1 : Nat) : Int) - 1) = (k : Int) := by rw [IntKind.wrap_i64]; omega
            have hw3 : IntKind.i64.wrap (k : Int) = (k : Int) := by rw [IntKind.wrap_i64]; omega
            have hw2 : IntKind.i64.wrap ((k : Int) + 1 - 1) = (k : Int) := by rw [IntKind.wrap_i64]; omega
            have hpos : (0 : Int) < ((k + 1 : Nat) : Int) := by omega
            have HS := Aside0.mk (nodeSort hy)
            clear hcell hy
            by_cases hse : yy.sort = x.sort
            · have hR := HR.out
              rw [if_neg (by rintro (q | ⟨_, q⟩); exact he q; exact q (HS.out.trans hse))] at hR
              subst hR
              rw [hse] at hs1
              go_upto_region 10 with (fail)
              refine wp_plan [(0, 0), (1, 1), (0, 2), (0, 3), (0, 4), (0, 5), (0, 6), (0, 7), (0, 8), (0, 9), (0, 11), (0, 12), (0, 16), (1, 10), (0, 13), (0, 14), (1, 15), (1, 17), (0, 18), (0, 19), (0, 20)] (fun w' => w' = _) (by kernel_rfl) (by kernel_rfl) (fun _ _ d _ _ h => by cases d <;> exact h) rfl ?_
              simp only [planOps, List.filterMap_cons, List.filterMap_nil, List.getElem?_toArray, List.getElem?_cons_zero, List.getElem?_cons_succ, Option.map_some]
              repeat (first
                | (refine' plan_pu _ (by rfl) (fun w' => ?_) ?_; rotate_left 1; (focus (go_simp; try (with_reducible rfl))); (try simp only [wrapi_0, wrapi_1, wrapi_2, wrapi_3, wrapi_4, hw, hw2, hw3]); simp only [Act.put, List.setIfInBounds_toArray, List.set_cons_zero, List.set_cons_succ])
                | (refine' plan_off (by rfl) ?_; (try simp only [wrapi_0, wrapi_1, wrapi_2, wrapi_3, wrapi_4, hw, hw2, hw3]); simp only [Act.put, List.setIfInBounds_toArray, List.set_cons_zero, List.set_cons_succ])
                | (refine' plan_offL (by rfl) ?_; (try simp only [wrapi_0, wrapi_1, wrapi_2, wrapi_3, wrapi_4, hw, hw2, hw3]); simp only [Act.put, List.setIfInBounds_toArray, List.set_cons_zero, List.set_cons_succ])
                | (refine' plan_ld _ (by rfl) (fun w' hSw => ?_) ?_; rotate_left 1; (focus (subst hSw; go_simp; try (with_reducible rfl))); (try simp only [wrapi_0, wrapi_1, wrapi_2, wrapi_3, wrapi_4, hw, hw2, hw3]); simp only [Act.put, List.setIfInBounds_toArray, List.set_cons_zero, List.set_cons_succ]))
              refine plan_nil ?_
              go_wp2_with fail
              refine node_ret2 rfl rfl HC4.out HB.out (by omega) rfl rfl (fun w' hb => ⟨?_, hb⟩)
              (rw [HO.out, HP.out, HQ.out]; rfl)
            · have hR := HR.out
              rw [if_pos (.inr ⟨by omega, fun q => hse (HS.out.symm.trans q)⟩)] at hR
              subst hR
              have hne : (yy.sort != x.sort) = true := bne_iff_ne.mpr hse
              clear hse HR
              go_upto_region 10 with (fail)
              refine wp_plan [(0, 0), (1, 1), (0, 2), (0, 3), (0, 4), (0, 5), (0, 6), (0, 7), (0, 8), (0, 9), (0, 11), (0, 12), (0, 16), (1, 10), (0, 13), (0, 14), (1, 15), (1, 17), (0, 18), (0, 19), (0, 20)] (fun w' => w' = _) (by kernel_rfl) (by kernel_rfl) (fun _ _ d _ _ h => by cases d <;> exact h) rfl ?_
              simp only [planOps, List.filterMap_cons, List.filterMap_nil, List.getElem?_toArray, List.getElem?_cons_zero, List.getElem?_cons_succ, Option.map_some]
              repeat (first
                | (refine' plan_pu _ (by rfl) (fun w' => ?_) ?_; rotate_left 1; (focus (go_simp; try (with_reducible rfl))); (try simp only [wrapi_0, wrapi_1, wrapi_2, wrapi_3, wrapi_4, hw, hw2, hw3]); simp only [Act.put, List.setIfInBounds_toArray, List.set_cons_zero, List.set_cons_succ])
                | (refine' plan_off (by rfl) ?_; (try simp only [wrapi_0, wrapi_1, wrapi_2, wrapi_3, wrapi_4, hw, hw2, hw3]); simp only [Act.put, List.setIfInBounds_toArray, List.set_cons_zero, List.set_cons_succ])
                | (refine' plan_offL (by rfl) ?_; (try simp only [wrapi_0, wrapi_1, wrapi_2, wrapi_3, wrapi_4, hw, hw2, hw3]); simp only [Act.put, List.setIfInBounds_toArray, List.set_cons_zero, List.set_cons_succ])
                | (refine' plan_ld _ (by rfl) (fun w' hSw => ?_) ?_; rotate_left 1; (focus (subst hSw; go_simp; try (with_reducible rfl))); (try simp only [wrapi_0, wrapi_1, wrapi_2, wrapi_3, wrapi_4, hw, hw2, hw3]); simp only [Act.put, List.setIfInBounds_toArray, List.set_cons_zero, List.set_cons_succ]))
              refine plan_nil ?_
              go_wp2_with fail
              refine node_ret2 rfl rfl HC4.out HB.out (by omega) rfl rfl (fun w' hb => ⟨?_, hb⟩)
              (rw [HO.out, HP.out, HQ.out]; rfl)
      · have hR := HR.out
        rw [if_pos (.inr (.inr hq))] at hR
        subst hR
        go_wp2_with fail
        refine node_ret rfl rfl HC4.out HB.out (by omega) rfl rfl (fun w' hb => ⟨?_, hb⟩)
        simp [HO.out, *]
    · have hR := HR.out
      rw [if_pos (.inr (.inl hp))] at hR
      subst hR
      go_wp2_with fail
      refine node_ret rfl rfl HC4.out HB.out (by omega) rfl rfl (fun w' hb => ⟨?_, hb⟩)
      simp [HO.out, *]
end Go.Proofs.YthhnhbpmpdminaaGreatDoor
