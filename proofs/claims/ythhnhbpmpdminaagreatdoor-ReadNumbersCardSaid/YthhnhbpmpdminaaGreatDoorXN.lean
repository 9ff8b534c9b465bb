/-
Several texts as one: Rch Plc2 Rcp.
-/
import Derived.Test.YthhnhbpmpdminaaGreatDoorXM
import Derived.Test.YthhnhbpmpdminaaGreatDoorXI
import Derived.Deep.LoopGhost
/-
read.worker: chain. Conditions: the reader in memory.
-/
namespace Go.Proofs.YthhnhbpmpdminaaGreatDoor
set_option maxRecDepth 4096
set_option maxHeartbeats 8000000
set_option linter.unusedSimpArgs false
set_option linter.unusedVariables false
set_option linter.unnecessarySimpa false
open Go.RowKit Go.Proofs.YthhnhbpmpdminaaGreatDoorW.PrintWords Go.Maps
section
variable (z : Zr) (w : World) (E : List Ent) (vl : Value) (cs : List Value) (defs : Int) (r : Rd)
/-- Ahead of what is made, what is made already. -/
def preL (l : List Nat) (m : Ls) : Ls := ((l ++ m.1.1, m.1.2), m.2)
theorem seqF_nil {α : Type} (f : α → Rd → Rs) (r : Rd) : seqF f [] r = (([], 0), r) := rfl
theorem seqF_ok {α : Type} {f : α → Rd → Rs} {x : α} {t : List α} {r r2 : Rd} {id : Nat} (h : f x r = ((id, 0), r2)) (l : List Nat) : preL l (seqF f (x :: t) r) = preL (l ++ [id]) (seqF f t r2) := by
  rw [seqF, h]
  simp [preL]
theorem seqF_err {α : Type} {f : α → Rd → Rs} {x : α} {t : List α} {r r2 : Rd} {id : Nat} {er : Int} (h : f x r = ((id, er), r2)) (he : er ≠ 0) (l : List Nat) (g : List Nat → Rd → Rs) : thenL (preL l (seqF f (x :: t) r)) g = failF er r2 := by
  rw [seqF, h]
  simp only [preL, thenL]
  rw [if_pos he, if_pos he]
theorem chain_any (a : Nat) (ids : List Nat) (b c : Nat) (hn : ids ≠ []) (hi : IdOk z w (a :: ids) b) (hl : ids.length ≤ 1000000) (h : RI z w E vl cs defs r) (hB : z.B ≤ w.heap.size) :
    Calls Tryz.prog 206 #[.pointer (some ⟨z.wb, 0, none⟩), .slice (some ⟨b, 0, none⟩) (ids.length + 1) c] w fun e w' => RPost z w E vl cs defs (chainF (a :: ids) r) e w' := by
  obtain ⟨R, hR⟩ : ∃ R, chainF (a :: ids) r = R := ⟨_, rfl⟩
  rw [hR]
  have HR : Aside0 (thenL (preL [] (seqF eqF (((a :: ids).zip ids).drop 0) r)) (fun l r => leftA 4 l r) = R) := ⟨by
    rw [← hR]
    unfold chainF
    rfl⟩
  have HI := Aside0.mk hi
  have HW := Aside0.mk h
  have HN := Aside0.mk hn
  have e1 : wrap64 ((ids.length : Int) + 1 - 1) = (ids.length : Int) := by unfold wrap64; omega
  clear hi h hR hn
  go_enter Tryz.func206, Tryz.ntmps206
  go_wp2_with fail
  go_loopw [6, 13] (fun v6 v13 wr => ∃ (i : Nat) (l : List Nat) (r' : Rd), i ≤ ids.length ∧ l.length = i ∧ v13 = .int .i64 (i : Int) ∧ Aside0 (IB w.heap.size wr l v6) ∧ Aside0 (thenL (preL l (seqF eqF (((a :: ids).zip ids).drop i) r')) (fun l r => leftA 4 l r) = R) ∧ Aside0 (RI z wr E vl cs defs r') ∧ Aside0 (KR z w wr) ∧ Aside0 (Below z.B w wr)) (fun _ v13 _ => ids.length - (intOf v13).toNat)
  case atStart => exact ⟨0, [], r, by omega, rfl, rfl, ⟨IB.nil _ _⟩, HR, HW, ⟨KR.refl _⟩, ⟨Below.refl _ _⟩⟩
  case round =>
    obtain ⟨i, l, r', hj, hil, rfl, HL, HR', HW', HK', HB'⟩ := hrel
    by_cases hlt : i < ids.length
    · have hlt' : (i : Int) < (ids.length : Int) := by omega
      obtain ⟨x, hx⟩ : ∃ x, (a :: ids)[i]? = some x := ⟨_, List.getElem?_eq_getElem (by simp; omega)⟩
      obtain ⟨y, hy⟩ : ∃ y, ids[i]? = some y := ⟨_, List.getElem?_eq_getElem hlt⟩
      have hd := (HI.out.next HK'.out).2 i x hx
      have hd2 := (HI.out.next HK'.out).2 (i + 1) y (by rw [List.getElem?_cons_succ]; exact hy)
      have hcell := hd.1
      have hcell2 := hd2.1
      have HX1 := Aside0.mk hd.2
      have HX2 := Aside0.mk hd2.2
      have HZ : Aside0 (((a :: ids).zip ids).drop i = (x, y) :: ((a :: ids).zip ids).drop (i + 1)) := ⟨by
        have hz : ((a :: ids).zip ids)[i]? = some (x, y) := by
          rw [List.getElem?_zip_eq_some]; exact ⟨hx, hy⟩
        obtain ⟨hz1, hz2⟩ := List.getElem?_eq_some_iff.1 hz
        rw [List.drop_eq_getElem_cons hz1, hz2]⟩
      clear hd hd2 hx hy
      have hw3 : IntKind.i64.wrap ((i : Int) + 1) = ((i + 1 : Nat) : Int) := by rw [IntKind.wrap_i64]; omega
      have f2 : wrap64 ((i : Int) + 1) = (i : Int) + 1 := by unfold wrap64; omega
      have f3 : (i : Int) < (ids.length : Int) + 1 := by omega
      have f4 : ((i + 1 : Nat) : Int) < (ids.length : Int) + 1 := by omega
      have f5 : (0 : Int) ≤ (i : Int) + 1 := by omega
      go_upto_region 5 with (fail)
      refine wp_plan [(0, 0), (0, 1), (0, 2), (0, 3), (0, 5), (0, 6), (0, 7), (0, 8), (1, 4), (1, 9), (3, 10), (0, 11), (0, 12), (0, 13), (0, 14), (0, 15)] (fun w' => w' = _) (by kernel_rfl) (by kernel_rfl) (fun _ _ d _ _ h => by cases d <;> exact h) rfl ?_
      simp only [planOps, List.filterMap_cons, List.filterMap_nil, List.getElem?_toArray, List.getElem?_cons_zero, List.getElem?_cons_succ, Option.map_some]
      repeat (first
        | (refine' plan_pu _ (by rfl) (fun w' => ?_) ?_; rotate_left 1; (focus (go_simp; try (with_reducible rfl))); (try simp only [wrapi_0, wrapi_1, wrapi_2, wrapi_3, wrapi_4, hw3]); simp only [Act.put, List.setIfInBounds_toArray, List.set_cons_zero, List.set_cons_succ])
        | (refine' plan_off (by rfl) ?_; (try simp only [wrapi_0, wrapi_1, wrapi_2, wrapi_3, wrapi_4, hw3]); simp only [Act.put, List.setIfInBounds_toArray, List.set_cons_zero, List.set_cons_succ])
        | (refine' plan_offL (by rfl) ?_; (try simp only [wrapi_0, wrapi_1, wrapi_2, wrapi_3, wrapi_4, hw3]); simp only [Act.put, List.setIfInBounds_toArray, List.set_cons_zero, List.set_cons_succ])
        | (refine' plan_ld _ (by rfl) (fun w' hSw => ?_) ?_; rotate_left 1; (focus (subst hSw; go_simp; try (with_reducible rfl))); (try simp only [wrapi_0, wrapi_1, wrapi_2, wrapi_3, wrapi_4, hw3]); simp only [Act.put, List.setIfInBounds_toArray, List.set_cons_zero, List.set_cons_succ]))
      refine plan_fi (fun K hK => ?_)
      go_simp
      refine (two_any z wr.drew E vl cs defs r' 8 x y (by unfold i64ok; omega) HX1.out HX2.out (HW'.out.below ((Below.refl _ wr).drew)) (Nat.le_trans hB (HB'.out.size))).mono ?_
      rintro e w1 ⟨rfl, g1, g2, g3⟩
      have G1 := Aside0.mk g1
      have gl := HL.out.move HW'.out ((KR.refl wr).drew.trans g2)
      have GL := Aside0.mk gl
      have G2 := Aside0.mk (HK'.out.drew.trans g2)
      have G3 := Aside0.mk (HB'.out.drew.trans g3)
      clear g1 g2 g3 gl HL
      obtain ⟨⟨⟨id, er⟩, r2⟩, hrr⟩ : ∃ rr, twoF 8 x y r' = rr := ⟨_, rfl⟩
      have HID : Aside0 (er = 0 → id ≤ 1000000) := ⟨fun q => two_small (by have := G1.out; rw [hrr] at this; exact this) hrr q⟩
      have HE : Aside0 (eqF (x, y) r' = ((id, er), r2)) := ⟨hrr⟩
      rw [hrr] at G1 ⊢
      clear hrr
      dsimp only at G1 ⊢
      have hS := HR'.out
      rw [HZ.out] at hS
      refine hK.out _ _ ?_
      clear hK K
      by_cases he : er = 0
      · subst he
        rw [seqF_ok HE.out] at hS
        have HS := Aside0.mk hS
        clear hS HR'
        repeat (first
          | (refine' plan_pu _ (by rfl) (fun w' => ?_) ?_; rotate_left 1; (focus (go_simp; try (with_reducible rfl))); (try simp only [wrapi_0, wrapi_1, wrapi_2, wrapi_3, wrapi_4]); simp only [Act.put, List.setIfInBounds_toArray, List.set_cons_zero, List.set_cons_succ])
          | (refine' plan_off (by rfl) ?_; (try simp only [wrapi_0, wrapi_1, wrapi_2, wrapi_3, wrapi_4]); simp only [Act.put, List.setIfInBounds_toArray, List.set_cons_zero, List.set_cons_succ])
          | (refine' plan_offL (by rfl) ?_; (try simp only [wrapi_0, wrapi_1, wrapi_2, wrapi_3, wrapi_4]); simp only [Act.put, List.setIfInBounds_toArray, List.set_cons_zero, List.set_cons_succ])
          | (refine' plan_offE (by rfl) (by first | assumption | exact (by assumption)) ?_; (try simp only [wrapi_0, wrapi_1, wrapi_2, wrapi_3, wrapi_4]); simp only [Act.put, List.setIfInBounds_toArray, List.set_cons_zero, List.set_cons_succ])
          | (refine' plan_ld _ (by rfl) (fun w' hSw => ?_) ?_; rotate_left 1; (focus ((try dsimp only at hSw); skip; go_simp; try (with_reducible rfl))); (try simp only [wrapi_0, wrapi_1, wrapi_2, wrapi_3, wrapi_4]); simp only [Act.put, List.setIfInBounds_toArray, List.set_cons_zero, List.set_cons_succ]))
        refine plan_nil ?_
        have hz : w.heap.size ≤ w1.heap.size := G2.out.size
        go_wp2_with (at_builtin; (refine apl_at (w0 := w1) _ w.heap.size (.tmp 33) (.tmp 35) 61 3 (.int .i64 0) 1 8 u6 l.length (idsN l) [.int .i64 (id : Int)] ⟨w1.heap.size, 0, none⟩ 1 rfl rfl (news_one (Cells.new w1 _ _)) Tryz.underlying61 Tryz.infoIntI rfl (by decide) (by decide) (by rfl) (by rfl) rfl (by simp [Value.oneCell']) (GL.out.own.alloc _) ((Below.refl _ _).alloc hz _) (Nat.le_trans hz (by simp)) (by omega) ?_; intro v1 w3 hown1 hB3 hg1 hat1; have HO1 := Aside0.mk hown1; have HB3 := Aside0.mk hB3; have HG1 := Aside0.mk hg1; clear hown1 hB3 hg1 hat1))
        have hk3 : KR z w w3 := G2.out.grow HB3.out
        have hb3 : Below z.B w w3 := G3.out.trans (HB3.out.mono hB)
        refine ⟨⟨i + 1, l ++ [id], r2, by omega, by simp [hil], by simp, ⟨GL.out.push (HID.out rfl) HO1.out⟩, HS, ⟨?_⟩, ⟨hk3⟩, ⟨hb3⟩⟩, by simp only [intOf]; omega⟩
        exact (G1.out.below ((Below.refl _ w1).alloc (Nat.le_refl _) _)).grown (GL.out.own.alloc _) HG1.out (HW.out.sc.next hk3)
      · have hq : failF er r2 = R := by
          rw [seqF_err HE.out he] at hS
          exact hS
        have HQ := Aside0.mk hq
        clear hq hS
        repeat (first
          | (refine' plan_pu _ (by rfl) (fun w' => ?_) ?_; rotate_left 1; (focus (go_simp; try (with_reducible rfl))); (try simp only [wrapi_0, wrapi_1, wrapi_2, wrapi_3, wrapi_4]); simp only [Act.put, List.setIfInBounds_toArray, List.set_cons_zero, List.set_cons_succ])
          | (refine' plan_off (by rfl) ?_; (try simp only [wrapi_0, wrapi_1, wrapi_2, wrapi_3, wrapi_4]); simp only [Act.put, List.setIfInBounds_toArray, List.set_cons_zero, List.set_cons_succ])
          | (refine' plan_offL (by rfl) ?_; (try simp only [wrapi_0, wrapi_1, wrapi_2, wrapi_3, wrapi_4]); simp only [Act.put, List.setIfInBounds_toArray, List.set_cons_zero, List.set_cons_succ])
          | (refine' plan_offE (by rfl) (by first | assumption | exact (by assumption)) ?_; (try simp only [wrapi_0, wrapi_1, wrapi_2, wrapi_3, wrapi_4]); simp only [Act.put, List.setIfInBounds_toArray, List.set_cons_zero, List.set_cons_succ])
          | (refine' plan_ld _ (by rfl) (fun w' hSw => ?_) ?_; rotate_left 1; (focus ((try dsimp only at hSw); skip; go_simp; try (with_reducible rfl))); (try simp only [wrapi_0, wrapi_1, wrapi_2, wrapi_3, wrapi_4]); simp only [Act.put, List.setIfInBounds_toArray, List.set_cons_zero, List.set_cons_succ]))
        refine plan_nil ?_
        go_wp2_with fail
        go_returns
        rw [← HQ.out]
        exact ⟨rfl, G1.out, G2.out, G3.out⟩
    · obtain rfl : i = ids.length := by omega
      clear hlt
      have hS := HR'.out
      rw [List.drop_of_length_le (by simp), seqF_nil] at hS
      have hne : l ≠ [] := fun q => HN.out (List.eq_nil_of_length_eq_zero (by rw [← hil, q]; rfl))
      obtain ⟨b1, c1, rfl, hid, hc1, hc2⟩ := HL.out.idok HW'.out hne
      obtain ⟨x, t, rfl⟩ : ∃ x t, l = x :: t := by cases l with
        | nil => exact absurd rfl hne
        | cons x t => exact ⟨x, t, rfl⟩
      have hS2 : leftF 4 t x r' = R := by
        rw [← hS]
        simp [preL, thenL, leftA]
      have HS := Aside0.mk hS2
      have HID := Aside0.mk hid
      have hil2 : t.length + 1 = ids.length := hil
      rw [List.length_cons] at hc1 ⊢
      clear hS hS2 hid hne hil
      go_wp2_with fail
      rw [← hil2]
      refine (fromLeft_any z wr E vl cs defs r' 4 (by unfold i64ok; omega) x t b1 c1 HID.out (by omega) hc1 hc2 HW'.out (Nat.le_trans hB HB'.out.size)).mono ?_
      rintro e w1 ⟨rfl, g1, g2, g3⟩
      rw [HS.out] at g1 ⊢
      have G1 := Aside0.mk g1
      have G2 := Aside0.mk (HK'.out.trans g2)
      have G3 := Aside0.mk (HB'.out.trans g3)
      clear g1 g2 g3
      go_wp2_with fail
      go_returns
      exact ⟨rfl, G1.out, G2.out, G3.out⟩
end
end Go.Proofs.YthhnhbpmpdminaaGreatDoor
/-
A struct and two more results. Conditions: none.
-/
namespace Go.Proofs.YthhnhbpmpdminaaGreatDoor
set_option maxRecDepth 4096
set_option maxHeartbeats 8000000
set_option linter.unusedSimpArgs false
set_option linter.unusedVariables false
set_option linter.unnecessarySimpa false
theorem results_cell_tmp2 {P : Program} {fn : Func} {p q r : Tmp} {ty : TypeId} (h : fn.results = #[.cell p ty, .tmp q, .tmp r]) (tmps : Array Value) (w : World) (g : Nat) (t : TypeId) (cs : Array Value) (fr : Nat × Nat) (d : TypeDesc) (v u : Value)
    (hp : tmps.getD p undef = .pointer (some ⟨g, 0, none⟩)) (hq : tmps.getD q undef = v) (hr : tmps.getD r undef = u) (hg : w.heap[g]? = some (.cells cs t fr))
    (hu : P.underlying ty = some d) (hd : (match d with | .struct _ | .array _ _ => true | _ => false) = true) (hi : (P.info? ty).map (·.size) = some cs.size) :
    (results fn tmps).run P w = .ok (.tuple #[.agg cs, v, u]) w := by
  have hp' : tmps[p]?.getD undef = .pointer (some ⟨g, 0, none⟩) := by simpa using hp
  have hq' : tmps[q]?.getD undef = v := by simpa using hq
  have hr' : tmps[r]?.getD undef = u := by simpa using hr
  simp [results, h, hp', hq', hr', asAddr, run_loadVar_row w g t ty cs fr d hg hu hd hi, Result.andThen]
end Go.Proofs.YthhnhbpmpdminaaGreatDoor
/-
read.worker: sort, seen; place.in. Conditions: the reader in memory.
-/
namespace Go.Proofs.YthhnhbpmpdminaaGreatDoor
set_option maxRecDepth 4096
set_option maxHeartbeats 8000000
set_option linter.unusedSimpArgs false
set_option linter.unusedVariables false
set_option linter.unnecessarySimpa false
open Go.RowKit Go.Proofs.YthhnhbpmpdminaaGreatDoorW.PrintWords Go.Maps
section
variable (z : Zr) (w : World) (E : List Ent) (vl : Value) (cs : List Value) (defs : Int) (r : Rd)
theorem nodeV_some (y : Nd) : nodeV (some y) = .tuple #[.agg #[.int .i64 y.op, .int .i64 y.sort, .int .i64 y.a, .int .i64 y.b, .int .i64 y.c, .int .i64 y.p, .int .i64 y.q, .int .i64 y.w, .int .u64 y.lo, .int .u64 y.hi, .string y.name], .bool true] := rfl
theorem wsort_any (id : Nat) (h1 : 1 ≤ id) (h2 : id ≤ r.G.l.length) (h : RI z w E vl cs defs r) :
    Calls Tryz.prog 199 #[.pointer (some ⟨z.wb, 0, none⟩), .int .i64 (id : Int)] w fun e w' => e = .returned (.int .i64 (sortAt r.G.l id)) ∧ Below w.heap.size w w' := by
  obtain ⟨s, hs⟩ : ∃ s, sortAt r.G.l id = s := ⟨_, rfl⟩
  rw [hs]
  have HI := Aside0.mk h
  have c0 := h.wk.cell 0 _ rfl
  have s0 := h.sc.scope.cell 0 _ rfl
  obtain ⟨vn, hg⟩ := h.gi
  have hlen := hg.len
  have hmost := hg.most
  obtain ⟨y, hy⟩ : ∃ y, nodeAt r.G.l (id : Int) = some y := by
    unfold nodeAt
    rw [if_pos ⟨by omega, by omega⟩]
    exact ⟨_, List.getElem?_eq_getElem (by omega)⟩
  have HY : Aside0 (y.sort = s) := ⟨by
    rw [← hs]
    unfold nodeAt at hy
    rw [if_pos ⟨by omega, by omega⟩] at hy
    unfold sortAt; rw [hy]⟩
  have HN := Aside0.mk hy
  have HG := Aside0.mk hg
  clear h hs hy hg
  go_enter Tryz.func199, Tryz.ntmps199
  go_wp2_with fail
  refine (Node_any z.B z.g z.bi z.bn r.G vn (id : Int) w HG.out (by unfold i64ok; omega)).mono ?_
  rintro e w1 ⟨rfl, hB⟩
  have HB := Aside0.mk hB
  rw [HN.out, nodeV_some, HY.out]
  clear hB
  go_wp2_with fail
  go_returns
  exact ⟨rfl, HB.out.alloc HB.out.size _⟩
theorem in_any (p : Option Addr) (lim depth : Nat) (hd : depth ≤ 1000) (W : World) :
    Calls Tryz.prog 202 #[.agg #[.pointer p, .int .i64 (lim : Int), .int .i64 (depth : Int)]] W fun e W' => e = .returned (.agg #[.pointer p, .int .i64 (lim : Int), .int .i64 ((depth : Int) + 1)]) ∧ Below W.heap.size W W' := by
  have hw : wrap64 ((depth : Int) + 1) = (depth : Int) + 1 := by unfold wrap64; omega
  go_enter Tryz.func202, Tryz.ntmps202
  go_wp2_with fail
  have HF : Cells ((W.alloc (.cells #[.pointer p, .int .i64 (lim : Int), .int .i64 ((depth : Int) + 1)] 139)).alloc (.cells #[.pointer p, .int .i64 (lim : Int), .int .i64 ((depth : Int) + 1)] 139)) (W.heap.size + 1) 139 [.pointer p, .int .i64 (lim : Int), .int .i64 ((depth : Int) + 1)] := by
    have := Cells.new (W.alloc (.cells #[.pointer p, .int .i64 (lim : Int), .int .i64 ((depth : Int) + 1)] 139)) 139 [.pointer p, .int .i64 (lim : Int), .int .i64 ((depth : Int) + 1)]
    simpa using this
  exact bodyPost_ret (results_cell_row rfl _ _ (W.heap.size + 1) 139 #[.pointer p, .int .i64 (lim : Int), .int .i64 ((depth : Int) + 1)] (0, 0) _ rfl HF Tryz.underlying139 rfl (by kernel_rfl)) rfl ⟨rfl, ((Below.refl _ W).alloc (Nat.le_refl _) _).alloc (by simp) _⟩
theorem bound_any (s : ByteArray) (b : Bnd) (p : Option Addr) (lim depth : Nat) (h : BL z w b p) :
    Calls Tryz.prog 146 #[.string s, .agg #[.pointer p, .int .i64 (lim : Int), .int .i64 (depth : Int)]] w fun e w' => e = .returned (.int .i64 (boundV s b : Int)) ∧ Below w.heap.size w w' := by
  obtain ⟨n, hn⟩ : ∃ n, boundV s b = n := ⟨_, rfl⟩
  rw [hn]
  have hb := (Below.refl _ w).alloc (Nat.le_refl _) (.cells #[.pointer p, .int .i64 (lim : Int), .int .i64 (depth : Int)] 139)
  have HB := Aside0.mk hb
  have HL := Aside0.mk (BL.next (KR.of_below hb) h)
  have HC := Aside0.mk (Cells.new w 139 [.pointer p, .int .i64 (lim : Int), .int .i64 (depth : Int)])
  have HN := Aside0.mk hn
  clear hb h hn
  go_enter Tryz.func146, Tryz.ntmps146
  go_upto_region 2 with (fail)
  obtain ⟨w0, hw0⟩ : ∃ w0, w.alloc (.cells #[.pointer p, .int .i64 (lim : Int), .int .i64 (depth : Int)] 139) = w0 := ⟨_, rfl⟩
  rw [hw0] at HB HL HC ⊢
  clear hw0
  have c0 := HC.out.cell 0 _ rfl
  refine wp_scope_straight ?_
  go_wp2_with fail
  apply wp_label
  go_wp2_with fail
  go_loopg [5, 6] b.length (fun k v5 v6 wr => v5 = .int .i64 0 ∧ ∃ (rest : Bnd) (q : Option Addr), v6 = .pointer q ∧ Aside0 (rest.length = k ∧ BL z wr rest q ∧ boundV s rest = n) ∧ wr = w0)
  case atStart => exact ⟨rfl, b, p, rfl, ⟨rfl, HL.out, HN.out⟩, rfl⟩
  case round =>
    obtain ⟨rfl, rest, q, rfl, HA, rfl⟩ := hrel
    cases rest with
    | nil =>
      obtain ⟨h1, h2, h3⟩ := HA.out
      have h2 : q = none := h2
      have h3 : (0 : Nat) = n := h3
      subst h2
      subst h3
      clear HA h1
      go_wp2_with fail
      dsimp only [Exit.noGoto]
      go_wp2_with fail
      go_returns
      exact ⟨rfl, HB.out⟩
    | cons x rest =>
      obtain ⟨h1, ⟨a, up, rfl, hna, hsz, hca, hup⟩, h3⟩ := HA.out
      have HUP := Aside0.mk hup
      have H1 := Aside0.mk h1
      have H3 := Aside0.mk h3
      have d0 := hca.cell 0 _ rfl
      have d1 := hca.cell 1 _ rfl
      have d2 := hca.cell 2 _ rfl
      clear hup h1 h3 hca HA
      by_cases he : x.1.data.toList = s.data.toList
      · have hE : (x.1.toList == s.toList) = true := by rw [ByteArray.toList_eq, ByteArray.toList_eq, he]; simp
        have HV : Aside0 (x.2 = n) := ⟨by
          rw [← H3.out]; unfold boundV; rw [if_pos (by simp [he])]⟩
        clear he
        go_wp2_with fail
        dsimp only [Exit.noGoto]
        go_wp2_with fail
        go_returns
        exact ⟨by rw [← HV.out]; rfl, HB.out⟩
      · have hE : (x.1.toList == s.toList) = false := by rw [ByteArray.toList_eq, ByteArray.toList_eq]; simpa using he
        have HV : Aside0 (boundV s rest = n) := ⟨by
          rw [← H3.out]
          show _ = boundV s (x :: rest)
          rw [boundV, if_neg (by simpa using he)]⟩
        clear he
        go_wp2_with fail
        go_roundg rest.length
        case measure => have := H1.out; simp at this; omega
        case rel => exact ⟨rfl, rest, up, rfl, ⟨rfl, HUP.out, HV.out⟩, rfl⟩
end
end Go.Proofs.YthhnhbpmpdminaaGreatDoor
