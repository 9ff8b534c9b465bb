/-
Several texts as one: Plan Cuy.
-/
import Derived.Test.YthhnhbpmpdminaaGreatDoorXA
import Derived.Test.YthhnhbpmpdminaaGreatDoorWWords
import Derived.Test.YthhnhbpmpdminaaGreatDoorXD
import Derived.WalkKit
import Derived.BigQuiet
import Derived.Deep.QuietTactic
import Derived.Deep.LoopGhost
import Derived.Deep.DeepCutAuto
import Derived.Handy
import Derived.Test.YthhnhbpmpdminaaGreatDoorProg
/-
A region that draws its order, run by one plan: which operation is taken when, and of what kind it is. Conditions: the table check 'planOk'.
-/
namespace Go.Proofs.YthhnhbpmpdminaaGreatDoor
set_option maxRecDepth 4096
open Go.Proofs.YthhnhbpmpdminaaGreatDoorW.PrintLast
/-- 0: yields in every world · 1: yields in every world that meets S · 2: it alone may come up, S is shown behind it · 3: it alone may come up, nothing is shown behind it. -/
def planDs (pl : List (Nat × Nat)) : List Nat := (pl.filter (fun x => x.1 == 3)).map (·.2)
def stepOk (md : Region.Mode) (ops : Array Oper) (ds : List Nat) (l : Array Bool) (x : Nat × Nat) : Bool :=
  match x.1 with
  | 0 => anyB md ops l (l.setIfInBounds x.2 true) x.2
  | 1 => takeB md ops ds l (l.setIfInBounds x.2 true) x.2
  | 2 => readyB md ops l (l.setIfInBounds x.2 true) x.2 && !ds.contains x.2
  | c => readyB md ops l (l.setIfInBounds x.2 true) x.2 && ds.contains x.2 && c == 3
def planOk (md : Region.Mode) (ops : Array Oper) (ds : List Nat) : Array Bool → List (Nat × Nat) → Bool
  | l, [] => Region.ready md ops l == []
  | l, x :: r => stepOk md ops ds l x && (ops[x.2]?).isSome && planOk md ops ds (l.setIfInBounds x.2 true) r
/-- What follows, closed to the walk's simp. -/
structure Nx (p : Prop) : Prop where
  out : p
section
variable {P : Program} {ops : Array Oper} {Q : Exit → Act → World → Prop} {S : World → Prop}
def wpPlan (P : Program) (ops : Array Oper) (Q : Exit → Act → World → Prop) (S : World → Prop) : List (Nat × Oper) → Act → World → Prop
  | [], a, w => Q .normal a w
  | (c, o) :: r, a, w => match c with
    | 0 => ∃ v, Yields P ops o v a ∧ wpPlan P ops Q S r (a.put o.dst v) w
    | 1 => ∃ v, YieldsIf P ops S o v a ∧ wpPlan P ops Q S r (a.put o.dst v) w
    | 2 => ∀ K : Act → World → Prop, Nx (∀ a' w', S w' → (S w' → wpPlan P ops Q S r a' w') → K a' w') → if Region.wanted o (yielded ops a.tmps) = true then Oper.wp P o a w K Q else K (a.put o.dst undef) w
    | _ => ∀ K : Act → World → Prop, Nx (∀ a' w', wpPlan P ops Q S r a' w' → K a' w') → if Region.wanted o (yielded ops a.tmps) = true then Oper.wp P o a w K Q else K (a.put o.dst undef) w
def planOps (ops : Array Oper) (pl : List (Nat × Nat)) : List (Nat × Oper) := pl.filterMap fun x => (ops[x.2]?).map fun o => (x.1, o)
/-- Where nothing more is shown of S behind an operation of ds, S is not asked of later steps: those of kind 1 stand ahead. -/
def noLate : List (Nat × Nat) → Bool
  | [] => true
  | x :: r => (if x.1 == 3 then r.all (fun y => y.1 == 0 || y.1 == 3) else true) && noLate r
theorem plan_sound {md : Region.Mode} {ds : List Nat} (hQ : ∀ c a (d : Option Tmp) (v : Value) w, Q (.panic c) (a.put d v) w → Q (.panic c) a w) : ∀ (pl : List (Nat × Nat)) (n : Nat) (l : Array Bool) (a : Act) (w : World),
    pl.length ≤ n → planOk md ops ds l pl = true → noLate pl = true → (pl.all (fun y => y.1 == 0 || y.1 == 3) = true ∨ S w) → wpPlan P ops Q S (planOps ops pl) a w → wpAnyLast P md ops Q S ds n l a w
  | [], n, l, a, w, _, hok, _, _, h => done_ (by simpa [planOk] using hok) h
  | x :: r, 0, l, a, w, hn, _, _, _, _ => by simp at hn
  | x :: r, n + 1, l, a, w, hn, hok, hnl, hS, h => by
    obtain ⟨c, i⟩ := x
    simp only [planOk, Bool.and_eq_true] at hok
    obtain ⟨⟨h1, h2⟩, h3⟩ := hok
    obtain ⟨o, ho⟩ := Option.isSome_iff_exists.1 h2
    have hn' : r.length ≤ n := by simpa using hn
    simp only [noLate, Bool.and_eq_true] at hnl
    obtain ⟨hl1, hl2⟩ := hnl
    simp only [planOps, List.filterMap_cons, ho, Option.map_some] at h
    match c, h1, h, hS, hl1 with
    | 0, h1, h, hS, _ =>
      obtain ⟨v, hy, h⟩ := h
      refine pure_ _ ho rfl h1 (fun c a w => hQ c a _ _ w) hy rfl (plan_sound hQ r n _ _ _ hn' h3 hl2 ?_ h)
      rcases hS with hS | hS
      · exact .inl (by simpa using hS)
      · exact .inr hS
    | 1, h1, h, hS, _ =>
      obtain ⟨v, hy, h⟩ := h
      have hS : S w := by
        rcases hS with hS | hS
        · simp at hS
        · exact hS
      exact take_ _ ho rfl h1 (fun c a w => hQ c a _ _ w) hy hS rfl (plan_sound hQ r n _ _ _ hn' h3 hl2 (.inr hS) h)
    | 2, h1, h, _, _ =>
      simp only [stepOk, Bool.and_eq_true, Bool.not_eq_true'] at h1
      refine one_ _ ho rfl h1.1 (by simpa using h1.2) (fun K hK => h K ⟨fun a' w' hS' hh => hK.out a' w' hS' (fun hS'' => plan_sound hQ r n _ _ _ hn' h3 hl2 (.inr hS'') (hh hS''))⟩)
    | k + 3, h1, h, hS, hl1 =>
      simp only [stepOk, Bool.and_eq_true] at h1
      have hk : k = 0 := by simpa using h1.2
      subst hk
      refine last_ _ ho rfl h1.1.1 (by simpa using h1.1.2) (fun K hK => h K ⟨fun a' w' hh => hK.out a' w' (plan_sound hQ r n _ _ _ hn' h3 hl2 (.inl ?_) hh)⟩)
      simpa using hl1
theorem wp_plan {id : Nat} {a : Act} {w : World} (pl : List (Nat × Nat)) (S : World → Prop) (hm : P.follows .mixedOrders = true)
    (hok : (planOk .any ops (planDs pl) (Array.replicate ops.size false) pl && noLate pl && decide (pl.length ≤ ops.size)) = true)
    (hQ : ∀ c a (d : Option Tmp) (v : Value) w, Q (.panic c) (a.put d v) w → Q (.panic c) a w) (hS : S w.drew)
    (h : wpPlan P ops Q S (planOps ops pl) a w.drew) : (Code.region id ops true).wp P Q a w := by
  simp only [Bool.and_eq_true, decide_eq_true_eq] at hok
  exact wp_region_last (ds := planDs pl) hm (plan_sound hQ pl ops.size _ a _ hok.2 hok.1.1 hok.1.2 (.inr hS) h)
variable {a : Act} {w : World} {o : Oper} {r : List (Nat × Oper)}
theorem plan_pu (v : Value) (hw : Region.wanted o (yielded ops a.tmps) = true) (hy : ∀ w, (execOp a.eval o).run P w = .ok (.value v) w) (h : wpPlan P ops Q S r (a.put o.dst v) w) : wpPlan P ops Q S ((0, o) :: r) a w := ⟨v, .inl ⟨hw, hy⟩, h⟩
theorem plan_off (hw : Region.wanted o (yielded ops a.tmps) = false) (h : wpPlan P ops Q S r (a.put o.dst undef) w) : wpPlan P ops Q S ((0, o) :: r) a w := ⟨undef, .inr ⟨hw, rfl⟩, h⟩
theorem plan_offL (hw : Region.wanted o (yielded ops a.tmps) = false) (h : wpPlan P ops Q S r (a.put o.dst undef) w) : wpPlan P ops Q S ((1, o) :: r) a w := ⟨undef, .inr ⟨hw, rfl⟩, h⟩
theorem plan_ld (v : Value) (hw : Region.wanted o (yielded ops a.tmps) = true) (hy : ∀ w, S w → (execOp a.eval o).run P w = .ok (.value v) w) (h : wpPlan P ops Q S r (a.put o.dst v) w) : wpPlan P ops Q S ((1, o) :: r) a w := ⟨v, .inl ⟨hw, hy⟩, h⟩
theorem plan_ef (h : ∀ K : Act → World → Prop, Nx (∀ a' w', S w' → (S w' → wpPlan P ops Q S r a' w') → K a' w') → if Region.wanted o (yielded ops a.tmps) = true then Oper.wp P o a w K Q else K (a.put o.dst undef) w) : wpPlan P ops Q S ((2, o) :: r) a w := h
theorem plan_fi (h : ∀ K : Act → World → Prop, Nx (∀ a' w', wpPlan P ops Q S r a' w' → K a' w') → if Region.wanted o (yielded ops a.tmps) = true then Oper.wp P o a w K Q else K (a.put o.dst undef) w) : wpPlan P ops Q S ((3, o) :: r) a w := h
theorem plan_nil (h : Q .normal a w) : wpPlan P ops Q S [] a w := h
/-- A plan's beginning; what is left is as 'wpAnyLast' has it. -/
def planTo (md : Region.Mode) (ops : Array Oper) (ds : List Nat) : Array Bool → List (Nat × Nat) → Array Bool → Bool
  | l, [], l' => l == l'
  | l, x :: r, l' => stepOk md ops ds l x && (ops[x.2]?).isSome && x.1 < 3 && planTo md ops ds (l.setIfInBounds x.2 true) r l'
def wpPlanZ (P : Program) (ops : Array Oper) (Q : Exit → Act → World → Prop) (S : World → Prop) (Z : Act → World → Prop) : List (Nat × Oper) → Act → World → Prop
  | [], a, w => Z a w
  | (c, o) :: r, a, w => match c with
    | 0 => ∃ v, Yields P ops o v a ∧ wpPlanZ P ops Q S Z r (a.put o.dst v) w
    | 1 => ∃ v, YieldsIf P ops S o v a ∧ wpPlanZ P ops Q S Z r (a.put o.dst v) w
    | _ => ∀ K : Act → World → Prop, Nx (∀ a' w', S w' → (S w' → wpPlanZ P ops Q S Z r a' w') → K a' w') → if Region.wanted o (yielded ops a.tmps) = true then Oper.wp P o a w K Q else K (a.put o.dst undef) w
theorem planZ_sound {md : Region.Mode} {ds : List Nat} {Z : Act → World → Prop} {l' : Array Bool} {m : Nat} (hQ : ∀ c a (d : Option Tmp) (v : Value) w, Q (.panic c) (a.put d v) w → Q (.panic c) a w)
    (hZ : ∀ a w, S w → Z a w → wpAnyLast P md ops Q S ds m l' a w) : ∀ (pl : List (Nat × Nat)) (n : Nat) (l : Array Bool) (a : Act) (w : World),
    n = pl.length + m → planTo md ops ds l pl l' = true → S w → wpPlanZ P ops Q S Z (planOps ops pl) a w → wpAnyLast P md ops Q S ds n l a w
  | [], n, l, a, w, hn, hok, hS, h => by
    have e : l = l' := by simpa [planTo] using hok
    subst e
    rw [show n = m by simpa using hn]
    exact hZ a w hS h
  | x :: r, n, l, a, w, hn, hok, hS, h => by
    obtain ⟨c, i⟩ := x
    obtain ⟨n, rfl⟩ : ∃ k, n = k + 1 := ⟨r.length + m, by rw [hn]; simp; omega⟩
    have hn' : n = r.length + m := by simp at hn; omega
    simp only [planTo, Bool.and_eq_true, decide_eq_true_eq] at hok
    obtain ⟨⟨⟨h1, h2⟩, h4⟩, h3⟩ := hok
    have h4 : c < 3 := h4
    obtain ⟨o, ho⟩ := Option.isSome_iff_exists.1 h2
    simp only [planOps, List.filterMap_cons, ho, Option.map_some] at h
    match c, h1, h, h4 with
    | 0, h1, h, _ =>
      obtain ⟨v, hy, h⟩ := h
      exact pure_ _ ho rfl h1 (fun c a w => hQ c a _ _ w) hy rfl (planZ_sound hQ hZ r n _ _ _ hn' h3 hS h)
    | 1, h1, h, _ =>
      obtain ⟨v, hy, h⟩ := h
      exact take_ _ ho rfl h1 (fun c a w => hQ c a _ _ w) hy hS rfl (planZ_sound hQ hZ r n _ _ _ hn' h3 hS h)
    | 2, h1, h, _ =>
      simp only [stepOk, Bool.and_eq_true, Bool.not_eq_true'] at h1
      exact one_ _ ho rfl h1.1 (by simpa using h1.2) (fun K hK => h K ⟨fun a' w' hS' hh => hK.out a' w' hS' (fun hS'' => planZ_sound hQ hZ r n _ _ _ hn' h3 hS'' (hh hS''))⟩)
    | k + 3, _, _, h4 => omega
theorem wp_planZ {id : Nat} {a : Act} {w : World} (pl : List (Nat × Nat)) (ds : List Nat) (S : World → Prop) (l' : Array Bool) (m : Nat) (hm : P.follows .mixedOrders = true)
    (hok : (planTo .any ops ds (Array.replicate ops.size false) pl l' && (ops.size == pl.length + m)) = true)
    (hQ : ∀ c a (d : Option Tmp) (v : Value) w, Q (.panic c) (a.put d v) w → Q (.panic c) a w) (hS : S w.drew)
    (h : wpPlanZ P ops Q S (fun a w => wpAnyLast P .any ops Q S ds m l' a w) (planOps ops pl) a w.drew) : (Code.region id ops true).wp P Q a w := by
  simp only [Bool.and_eq_true, beq_iff_eq] at hok
  exact wp_region_last (ds := ds) hm (planZ_sound hQ (fun a w _ h => h) pl ops.size _ a _ hok.2 hok.1 hS h)
/-- From 'wpAnyLast' on, by a plan to the end. -/
theorem plan_on {md : Region.Mode} {ds : List Nat} {n : Nat} {l : Array Bool} {a : Act} {w : World} (pl : List (Nat × Nat))
    (hok : (planOk md ops ds l pl && noLate pl && decide (pl.length ≤ n)) = true)
    (hQ : ∀ c a (d : Option Tmp) (v : Value) w, Q (.panic c) (a.put d v) w → Q (.panic c) a w) (hS : S w)
    (h : wpPlan P ops Q S (planOps ops pl) a w) : wpAnyLast P md ops Q S ds n l a w := by
  simp only [Bool.and_eq_true, decide_eq_true_eq] at hok
  exact plan_sound hQ pl n l a w hok.2 hok.1.1 hok.1.2 (.inr hS) h
variable {Z : Act → World → Prop}
theorem planZ_pu (v : Value) (hw : Region.wanted o (yielded ops a.tmps) = true) (hy : ∀ w, (execOp a.eval o).run P w = .ok (.value v) w) (h : wpPlanZ P ops Q S Z r (a.put o.dst v) w) : wpPlanZ P ops Q S Z ((0, o) :: r) a w := ⟨v, .inl ⟨hw, hy⟩, h⟩
theorem planZ_ld (v : Value) (hw : Region.wanted o (yielded ops a.tmps) = true) (hy : ∀ w, S w → (execOp a.eval o).run P w = .ok (.value v) w) (h : wpPlanZ P ops Q S Z r (a.put o.dst v) w) : wpPlanZ P ops Q S Z ((1, o) :: r) a w := ⟨v, .inl ⟨hw, hy⟩, h⟩
theorem planZ_ef (h : ∀ K : Act → World → Prop, Nx (∀ a' w', S w' → (S w' → wpPlanZ P ops Q S Z r a' w') → K a' w') → if Region.wanted o (yielded ops a.tmps) = true then Oper.wp P o a w K Q else K (a.put o.dst undef) w) : wpPlanZ P ops Q S Z ((2, o) :: r) a w := h
theorem planZ_nil (h : Z a w) : wpPlanZ P ops Q S Z [] a w := h
/-- Two that make memory may come up, each order for itself. -/
theorem plan_two {md : Region.Mode} {ds : List Nat} {n : Nat} {l : Array Bool} {a : Act} {w : World} (i j : Nat) {oi oj : Oper} (hi : ops[i]? = some oi) (hj : ops[j]? = some oj)
    (hc : (Region.ready md ops l == [i, j] && !ds.contains i && !ds.contains j) = true)
    (h1 : ∀ K : Act → World → Prop, Nx (∀ a' w', S w' → (S w' → wpAnyLast P md ops Q S ds n (l.setIfInBounds i true) a' w') → K a' w') → if Region.wanted oi (yielded ops a.tmps) = true then Oper.wp P oi a w K Q else K (a.put oi.dst undef) w)
    (h2 : ∀ K : Act → World → Prop, Nx (∀ a' w', S w' → (S w' → wpAnyLast P md ops Q S ds n (l.setIfInBounds j true) a' w') → K a' w') → if Region.wanted oj (yielded ops a.tmps) = true then Oper.wp P oj a w K Q else K (a.put oj.dst undef) w) :
    wpAnyLast P md ops Q S ds (n + 1) l a w := by
  simp only [Bool.and_eq_true, Bool.not_eq_true'] at hc
  refine two_ (l.setIfInBounds i true) (l.setIfInBounds j true) hi hj rfl rfl ?_ (by simpa using hc.1.2) (by simpa using hc.2) (fun K hK => h1 K ⟨hK.out⟩) (fun K hK => h2 K ⟨hK.out⟩)
  simp [hc.1.1]
/-- Two of ds may come up, each order for itself: nothing is shown behind them. -/
theorem plan_twoL {md : Region.Mode} {ds : List Nat} {n : Nat} {l : Array Bool} {a : Act} {w : World} (i j : Nat) {oi oj : Oper} (hi : ops[i]? = some oi) (hj : ops[j]? = some oj)
    (hc : (Region.ready md ops l == [i, j] && ds.contains i && ds.contains j) = true)
    (h1 : ∀ K : Act → World → Prop, Nx (∀ a' w', wpAnyLast P md ops Q S ds n (l.setIfInBounds i true) a' w' → K a' w') → if Region.wanted oi (yielded ops a.tmps) = true then Oper.wp P oi a w K Q else K (a.put oi.dst undef) w)
    (h2 : ∀ K : Act → World → Prop, Nx (∀ a' w', wpAnyLast P md ops Q S ds n (l.setIfInBounds j true) a' w' → K a' w') → if Region.wanted oj (yielded ops a.tmps) = true then Oper.wp P oj a w K Q else K (a.put oj.dst undef) w) :
    wpAnyLast P md ops Q S ds (n + 1) l a w := by
  simp only [Bool.and_eq_true, beq_iff_eq] at hc
  exact wpAnyLast_ready hc.1.1 (by simp) (AllReadyL.cons_last hi (by simpa using hc.1.2) (fun K hK => h1 K ⟨hK.out⟩) (AllReadyL.cons_last hj (by simpa using hc.2) (fun K hK => h2 K ⟨hK.out⟩) AllReadyL.nil))
/-- The last one, of ds. -/
theorem plan_lastL {md : Region.Mode} {ds : List Nat} {n : Nat} {l : Array Bool} {a : Act} {w : World} (i : Nat) {oi : Oper} (hi : ops[i]? = some oi)
    (hc : (Region.ready md ops l == [i] && ds.contains i && Region.ready md ops (l.setIfInBounds i true) == []) = true)
    (h1 : ∀ K : Act → World → Prop, Nx (∀ a' w', Q .normal a' w' → K a' w') → if Region.wanted oi (yielded ops a.tmps) = true then Oper.wp P oi a w K Q else K (a.put oi.dst undef) w) :
    wpAnyLast P md ops Q S ds (n + 1) l a w := by
  simp only [Bool.and_eq_true, beq_iff_eq] at hc
  exact wpAnyLast_ready hc.1.1 (by simp) (AllReadyL.cons_last hi (by simpa using hc.1.2) (fun K hK => h1 K ⟨fun a' w' h => hK.out a' w' (wpAnyLast_done hc.2 h n)⟩) AllReadyL.nil)
end
theorem wrapi_0 : IntKind.i64.wrap 0 = 0 := rfl
theorem wrapi_1 : IntKind.i64.wrap 1 = 1 := rfl
theorem wrapi_2 : IntKind.i64.wrap 2 = 2 := rfl
theorem wrapi_3 : IntKind.i64.wrap 3 = 3 := rfl
theorem wrapi_4 : IntKind.i64.wrap 4 = 4 := rfl
section
open Go.RowKit Go.Proofs.YthhnhbpmpdminaaGreatDoorW.PrintWords
variable {P : Program} {ops : Array Oper} {o : Oper} {a : Act} {Q : Exit → Act → World → Prop} {K : Act → World → Prop}
/-- append(v, x) as one step, x's box being the world's last block. -/
theorem ap_step {w0 W' : World} (W : World) (base : Nat) (s x : Operand) (t e : TypeId) (z : Value) (size bytes : Nat) (v : Value) (n : Nat) (xs ys : List Value)
    (hW : W' = W.alloc (.cells ys.toArray e)) (hw : Region.wanted o (yielded ops a.tmps) = true)
    (ho : o.op = .call { callee := .builtin .append, args := #[s, x], argTypes := #[t, t] })
    (ht : P.underlying t = some (.slice e)) (hinfo : (P.info? e).map (fun i => (i.zero, i.size, i.bytes)) = some (some z, size, bytes)) (hz : z.cells.size = size) (hs0 : 0 < size) (hb0 : 0 < bytes)
    (hs : a.eval s = v) (hx : a.eval x = .slice (some ⟨W.heap.size, 0, none⟩) 1 1) (hys : ys.length = size) (h1 : ∀ u ∈ ys, u.oneCell' = true)
    (HO : W.ownsRow base e size v n xs) (HB : Below base w0 W) (hbase : base ≤ W.heap.size) (hl : (n + 1) * bytes ≤ 140737488355328)
    (h : ∀ v1 w1, w1.ownsRow base e size v1 (n + 1) (xs ++ ys) → Below base w0 w1 → W.grownBy w1 v.ownBlock → (v1.ownBlock = v.ownBlock ∨ ∃ b, v1.ownBlock = some b ∧ W.heap.size ≤ b) → K (a.put o.dst v1) w1) :
    if Region.wanted o (yielded ops a.tmps) = true then Oper.wp P o a W' K Q else K (a.put o.dst undef) W' := by
  subst hW
  exact step_append_cells base hw s x t e z size bytes ho ht hinfo hz hs0 hb0 v n xs ys hs hx hys h1 HO HB hbase hl h
/-- append(v, x), x's box wherever it lies. -/
theorem ap_at {w0 : World} (W : World) (base : Nat) (s x : Operand) (t e : TypeId) (z : Value) (size bytes : Nat) (v : Value) (n : Nat) (xs ys : List Value) (ad : Addr) (c : Nat)
    (hnews : ∀ j u, ys[j]? = some u → W.cell? (ad.add j) = some u) (hw : Region.wanted o (yielded ops a.tmps) = true)
    (ho : o.op = .call { callee := .builtin .append, args := #[s, x], argTypes := #[t, t] })
    (ht : P.underlying t = some (.slice e)) (hinfo : (P.info? e).map (fun i => (i.zero, i.size, i.bytes)) = some (some z, size, bytes)) (hz : z.cells.size = size) (hs0 : 0 < size) (hb0 : 0 < bytes)
    (hs : a.eval s = v) (hx : a.eval x = .slice (some ad) 1 c) (hys : ys.length = size) (h1 : ∀ u ∈ ys, u.oneCell' = true)
    (HO : W.ownsRow base e size v n xs) (HB : Below base w0 W) (hbase : base ≤ W.heap.size) (hl : (n + 1) * bytes ≤ 140737488355328)
    (h : ∀ v1 w1, w1.ownsRow base e size v1 (n + 1) (xs ++ ys) → Below base w0 w1 → W.grownBy w1 v.ownBlock → (v1.ownBlock = v.ownBlock ∨ ∃ b, v1.ownBlock = some b ∧ W.heap.size ≤ b) → K (a.put o.dst v1) w1) :
    if Region.wanted o (yielded ops a.tmps) = true then Oper.wp P o a W K Q else K (a.put o.dst undef) W := by
  obtain ⟨i0, hi, hzz⟩ := Option.map_eq_some_iff.1 hinfo
  simp only [Prod.mk.injEq] at hzz
  obtain ⟨hz0, hz1, hz2⟩ := hzz
  have hlen : n + 1 ≤ 140737488355328 := Nat.le_trans (Nat.le_mul_of_pos_right _ hb0) hl
  rw [if_pos hw]
  obtain ⟨v1, w1, hr, hown, hg, _, hat⟩ := run_append_own_at (P := P) W base t o.type e i0 z size bytes ht hi hz0 hz1 hz2 hz hs0 v n xs HO ad 1 c ys (by rw [hys]; simp) hnews h1 (by simp only [maxLen]; omega) hl hbase
  unfold Oper.wp execOp
  simp only [ho, resolve, invoke, builtin, Sem.run_bind, Sem.run_pure, Result.andThen_ok, List.map_toArray, List.map_cons, List.map_nil, hs, hx, hr]
  refine h v1 w1 hown (HB.grown hg hbase (own_base HO)) hg ?_
  rcases hat with hat | hat
  · exact .inl hat
  · exact .inr ⟨_, hat, Nat.le_refl _⟩
/-- append(v, x) in a plain list of operations. -/
theorem apl_at {rest : List Oper} {w0 : World} (W : World) (base : Nat) (s x : Operand) (t e : TypeId) (z : Value) (size bytes : Nat) (v : Value) (n : Nat) (xs ys : List Value) (ad : Addr) (c : Nat)
    (hgd : o.guard = none)
    (ho : o.op = .call { callee := .builtin .append, args := #[s, x], argTypes := #[t, t] }) (hnews : ∀ j u, ys[j]? = some u → W.cell? (ad.add j) = some u)
    (ht : P.underlying t = some (.slice e)) (hinfo : (P.info? e).map (fun i => (i.zero, i.size, i.bytes)) = some (some z, size, bytes)) (hz : z.cells.size = size) (hs0 : 0 < size) (hb0 : 0 < bytes)
    (hs : a.eval s = v) (hx : a.eval x = .slice (some ad) 1 c) (hys : ys.length = size) (h1 : ∀ u ∈ ys, u.oneCell' = true)
    (HO : W.ownsRow base e size v n xs) (HB : Below base w0 W) (hbase : base ≤ W.heap.size) (hl : (n + 1) * bytes ≤ 140737488355328)
    (h : ∀ v1 w1, w1.ownsRow base e size v1 (n + 1) (xs ++ ys) → Below base w0 w1 → W.grownBy w1 v.ownBlock → (v1.ownBlock = v.ownBlock ∨ ∃ b, v1.ownBlock = some b ∧ W.heap.size ≤ b) → wpList P ops Q rest (a.put o.dst v1) w1) :
    wpList P ops Q (o :: rest) a W := by
  obtain ⟨i0, hi, hzz⟩ := Option.map_eq_some_iff.1 hinfo
  simp only [Prod.mk.injEq] at hzz
  obtain ⟨hz0, hz1, hz2⟩ := hzz
  have hlen : n + 1 ≤ 140737488355328 := Nat.le_trans (Nat.le_mul_of_pos_right _ hb0) hl
  refine wpList_append_own_at W hgd s x t ho base e i0 z size bytes ht hi hz0 hz1 hz2 hz hs0 v n xs hs HO ad 1 c ys hx (by rw [hys]; simp) hnews h1 (by simp only [maxLen]; omega) hl hbase ?_
  intro v1 w1 hown hg _ hat
  refine h v1 w1 hown (HB.grown hg hbase (own_base HO)) hg ?_
  rcases hat with hat | hat
  · exact .inl hat
  · exact .inr ⟨_, hat, Nat.le_refl _⟩
end
end Go.Proofs.YthhnhbpmpdminaaGreatDoor
/-
The cursor of package sexp: next, while; its tests of a byte. Conditions: none.
-/
namespace Go.Proofs.YthhnhbpmpdminaaGreatDoor
set_option maxRecDepth 4096
open Go.RowKit
theorem next_end (g t : Nat) (s : ByteArray) (i : Nat) (r : List Value) (w : World) (h : Cells w g t (.string s :: .int .i64 i :: r)) (hi : s.size ≤ i) :
    Calls Tryz.prog 189 #[.pointer (some ⟨g, 0, none⟩)] w fun e w' => e = .returned (.tuple #[.int .u8 0, .bool false]) ∧ ∃ n, w' = w.drewN n := by
  have h0 := h.cell 0 _ rfl
  have h1 := h.cell 1 _ rfl
  have hd : decide ((i : Int) ≥ s.size) = true := by simp; omega
  go_enter Tryz.func189, Tryz.ntmps189
  go_wp2
  go_quiet (fail)
  go_wp2
  go_ret2
  exact ⟨rfl, _, rfl⟩
theorem next_some (g t : Nat) (s : ByteArray) (i : Nat) (r : List Value) (w : World) (h : Cells w g t (.string s :: .int .i64 i :: r)) (hi : i < s.size)  :
    Calls Tryz.prog 189 #[.pointer (some ⟨g, 0, none⟩)] w fun e w' => e = .returned (.tuple #[.int .u8 (s[i].toNat : Int), .bool true]) ∧ ∃ n, w' = w.drewN n := by
  have h0 := h.cell 0 _ rfl
  have h1 := h.cell 1 _ rfl
  have hd : decide ((i : Int) ≥ s.size) = false := by simp; omega
  have hi0 : (0 : Int) ≤ (i : Int) := by omega
  have hi1 : (i : Int) < (s.size : Int) := by omega
  go_enter Tryz.func189, Tryz.ntmps189
  go_wp2
  go_quiet (fail)
  go_wp2
  go_quiet (fail)
  go_wp2
  go_ret2
  exact ⟨rfl, _, World.drewN_drewN _ _ _⟩
/-- One contract for both: what next answers. -/
def nextV (s : ByteArray) (i : Nat) : Value × Value := if h : i < s.size then (.int .u8 (s[i].toNat : Int), .bool true) else (.int .u8 0, .bool false)
theorem nextV_yes {s : ByteArray} {i : Nat} (h : i < s.size) : nextV s i = (.int .u8 (s[i].toNat : Int), .bool true) := by unfold nextV; rw [dif_pos h]
theorem nextV_no {s : ByteArray} {i : Nat} (h : ¬ i < s.size) : nextV s i = (.int .u8 0, .bool false) := by unfold nextV; rw [dif_neg h]
theorem next_any (g t : Nat) (s : ByteArray) (i : Nat) (r : List Value) (w : World) (h : Cells w g t (.string s :: .int .i64 i :: r)) :
    Calls Tryz.prog 189 #[.pointer (some ⟨g, 0, none⟩)] w fun e w' => e = .returned (.tuple #[(nextV s i).1, (nextV s i).2]) ∧ ∃ n, w' = w.drewN n := by
  by_cases hi : i < s.size
  · rw [nextV_yes hi]; exact next_some g t s i r w h hi
  · rw [nextV_no hi]; exact next_end g t s i r w h (by omega)
structure TestFn (F : FuncId) (f : UInt8 → Bool) : Prop where
  run : ∀ (args : Array Value) (w : World), (callFunc F args).run Tryz.prog w = .ok (.enter F args) w
  calls : ∀ (b : UInt8) (w : World), Calls Tryz.prog F #[.int .u8 (b.toNat : Int)] w fun e w' => e = .returned (.bool (f b)) ∧ ∃ n, w' = w.drewN n
set_option maxHeartbeats 1000000 in
theorem while_any (g t : Nat) (f : UInt8 → Bool) (F : FuncId) (hF : TestFn F f) (s : ByteArray) (i : Nat) (r : List Value) (w : World)
    (h : Cells w g t (.string s :: .int .i64 i :: r)) (hi : i ≤ s.size) (hs : s.size ≤ 9223372036854775807) :
    Calls Tryz.prog 136 #[.pointer (some ⟨g, 0, none⟩), .func (.func F) #[] #[]] w fun e w' => e = .returned (.tuple #[]) ∧ Mod (fun k => k = g) w w' ∧ Cells w' g t (.string s :: .int .i64 (scan f s.data.toList i) :: r) := by
  have hl : s.data.toList.length = s.size := by rw [Array.length_toList]; rfl
  go_enter Tryz.func136, Tryz.ntmps136
  go_wp2_with fail
  refine (next_any g t s i r w h).mono ?_
  rintro e w1 ⟨rfl, n1, rfl⟩
  go_wp2_with fail
  go_loopg [4, 5] (s.size - i) (fun gk b ok wr => ∃ j : Nat, i ≤ j ∧ j ≤ s.size ∧ gk = s.size - j ∧ b = (nextV s j).1 ∧ ok = (nextV s j).2 ∧ Hid (scan f s.data.toList i = scan f s.data.toList j) ∧ Cells wr g t (.string s :: .int .i64 j :: r) ∧ Mod (fun k => k = g) w wr)
  case atStart => exact ⟨i, Nat.le_refl _, hi, rfl, rfl, rfl, rfl, h, (Mod.refl _ _).drewN _⟩
  case round =>
    obtain ⟨j, hij, hj, rfl, rfl, rfl, hsc, hc, hm⟩ := hrel
    by_cases hlt : j < s.size
    · rw [nextV_yes hlt]
      have hb : s.data.toList[j]'(by omega) = s[j] := rfl
      have hrun := hF.run
      by_cases hf : f s[j] = true
      · have hsc2 : Hid (scan f s.data.toList j = scan f s.data.toList (j + 1)) := scan_yes f _ j (by omega) (by rw [hb]; exact hf)
        have h1 := hc.cell 1 _ rfl
        have f1 := hc.frozen 1
        clear hb
        go_wp2_with fail
        refine (hF.calls s[j] wr).mono ?_
        rintro e w1 ⟨rfl, n2, rfl⟩
        rw [hf]
        clear hf
        go_wp2_with fail
        have hc2 : Cells ((wr.drewN n2).setCell ⟨g, 1, none⟩ (.int .i64 ((j + 1 : Nat) : Int))) g t (.string s :: .int .i64 ((j + 1 : Nat) : Int) :: r) := Cells.set (hc.drewN n2) 1 _
        refine (next_any g t s (j + 1) r _ hc2).mono ?_
        rintro e w2 ⟨rfl, n3, rfl⟩
        go_wp2_with fail
        go_roundg (s.size - (j + 1))
        case measure => omega
        case rel => exact ⟨j + 1, by omega, by omega, rfl, rfl, rfl, hsc.out.trans hsc2.out, hc2.drewN _, ((hm.drewN n2).setCell (.inl rfl) _).drewN n3⟩
      · have hf' : f s[j] = false := by simpa using hf
        clear hf
        have hsc2 : Hid (scan f s.data.toList j = j) := scan_no f _ j (by omega) (by rw [hb]; exact hf')
        clear hb
        go_wp2_with fail
        refine (hF.calls s[j] wr).mono ?_
        rintro e w1 ⟨rfl, n2, rfl⟩
        rw [hf']
        clear hf'
        go_wp2_with fail
        go_returns
        exact ⟨rfl, hm.drewN _, by rw [hsc.out, hsc2.out]; exact hc⟩
    · rw [nextV_no hlt]
      have hsc2 : Hid (scan f s.data.toList j = j) := scan_end f _ j (by omega)
      go_wp2_with fail
      go_returns
      exact ⟨rfl, hm, by rw [hsc.out, hsc2.out]; exact hc⟩
theorem enters {F : FuncId} {fn : Func} (hf : Tryz.prog.funcs[F]? = some fn) (hn : (fn.name == "runtime.NumGoroutine") = false) (hb : fn.body.isSome = true) (args : Array Value) (w : World) : (callFunc F args).run Tryz.prog w = .ok (.enter F args) w := by
  have h1 : fn.name ≠ "runtime.NumGoroutine" := by simpa using hn
  obtain ⟨c, hc⟩ := Option.isSome_iff_exists.1 hb
  simp [callFunc, hf, h1, hc]
theorem wordF_any : TestFn 137 notBar := ⟨fun args w => enters Tryz.func137 (by kernel_rfl) (by kernel_rfl) args w, fun b w => by
  by_cases h1 : b = 124
  · subst h1
    go_enter Tryz.func137, Tryz.ntmps137
    go_wp2
    go_ret
    exact ⟨rfl, 0, rfl⟩
  · have e1 : ((b.toNat : Int) != 124) = true := by
      simp only [bne_iff_ne, ne_eq]; intro h; exact h1 (UInt8.toNat_inj.1 (by simpa using (by omega : b.toNat = 124)))
    have e2 : notBar b = ((b.toNat : Int) != 10) := by
      unfold notBar
      have : (b != 124) = true := by simpa using h1
      rw [this, Bool.true_and]
      by_cases h2 : b = 10
      · subst h2; rfl
      · rw [show (b != 10) = true by simpa using h2]
        symm; simp only [bne_iff_ne, ne_eq]; intro h; exact h2 (UInt8.toNat_inj.1 (by simpa using (by omega : b.toNat = 10)))
    rw [e2]
    clear e2
    go_enter Tryz.func137, Tryz.ntmps137
    go_wp2
    go_ret
    exact ⟨rfl, 0, rfl⟩⟩
end Go.Proofs.YthhnhbpmpdminaaGreatDoor
