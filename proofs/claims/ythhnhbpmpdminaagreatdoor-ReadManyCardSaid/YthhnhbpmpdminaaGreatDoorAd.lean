/-
An operation over the abstract memory, calls too, and a list of them, stands for the model's. Conditions: the calls are sound.
-/
import Derived.Test.YthhnhbpmpdminaaGreatDoorAc
namespace Go.Proofs.YthhnhbpmpdminaaGreatDoor
namespace Ab
set_option maxRecDepth 4096

def CallSem (P : Program) (f : FuncId) (args : Array Value) (W : World) (post : Value → World → Prop) : Prop :=
  (∃ v' W', (callFunc f args).run P W = .ok (.value v') W' ∧ post v' W') ∨
  ((callFunc f args).run P W = .ok (.enter f args) W ∧ Calls P f args W fun e W' => ∃ v', e = .returned v' ∧ post v' W')
def CallOk (P : Program) (C0 : Ctx) (f : FuncId) (args : List AVal) (H : AHeap) (v : AVal) (H' : AHeap) : Prop :=
  ∀ (q : Nat → Bool) (C : Ctx) (W : World) (args' : Array Value), C0.Le C → R P q C H W → VRs C args args'.toList → CallSem P f args' W fun v' W' => ∃ C', C.Le C' ∧ VR C' v v' ∧ R P q C' H' W'
def Cal (P : Program) (C0 : Ctx) (call : FuncId → List AVal → AHeap → Option (AVal × AHeap)) : Prop :=
  ∀ f args H v H', call f args H = some (v, H') → CallOk P C0 f args H v H'
inductive DR (C : Ctx) : Ds → List Deferred → Prop
  | nil : DR C [] []
  | cons (f : FuncId) (args cap : List AVal) (args' cap' : Array Value) (ds : Ds) (dl : List Deferred) (ha : VRs C args args'.toList) (hc : VRs C cap cap'.toList) (t : DR C ds dl) :
      DR C ((f, args, cap) :: ds) ({ target := .fn (.func f) cap', args := args' } :: dl)
theorem DR.mono {C D : Ctx} (h : C.Le D) {ds : Ds} {dl : List Deferred} (d : DR C ds dl) : DR D ds dl := by
  induction d with
  | nil => exact .nil
  | cons f args cap args' cap' ds dl ha hc t ih => exact .cons _ _ _ _ _ _ _ (ha.mono h) (hc.mono h) ih

section
variable {S : St} {q : Nat → Bool} {C0 C : Ctx} {H : AHeap} {W : World}
theorem stepA_sound {call : FuncId → List AVal → AHeap → Option (AVal × AHeap)} (hcal : Cal S.P C0 call) {ev : Operand → AVal} {ds ds' : Ds} {H' : AHeap} {o : Oper} {v : AVal}
    (h : stepA S call ev ds H o = some (v, ds', H')) (h0 : C0.Le C) (hR : R S.P q C H W) {a : Act} (he : ∀ x, VR C (ev x) (a.eval x)) (hd : DR C ds a.defers) {K : Act → World → Prop} {Q : Exit → Act → World → Prop}
    (hK : ∀ (C' : Ctx) (v' : Value) (W' : World) (dl : List Deferred), C.Le C' → VR C' v v' → R S.P q C' H' W' → DR C' ds' dl → K (({ a with defers := dl } : Act).put o.dst v') W') : Oper.wp S.P o a W K Q := by
  have fromE : ∀ {v : AVal} {H' : AHeap}, (∀ (C' : Ctx) (v' : Value) (W' : World) (dl : List Deferred), C.Le C' → VR C' v v' → R S.P q C' H' W' → DR C' ds dl → K (({ a with defers := dl } : Act).put o.dst v') W') →
      eop S.P H ev o = some (v, H') → Oper.wp S.P o a W K Q := by
    intro v H' hK hl
    obtain ⟨C', v', W', nx, h1, h2, h3, h4, h5⟩ := eop_sound hR hl he
    unfold Oper.wp
    rw [h2]
    rcases h3 with rfl | ⟨rfl, rfl⟩
    · exact hK C' v' W' a.defers h1 h4 h5 (hd.mono h1)
    · exact hK C' undef W' a.defers h1 h4 h5 (hd.mono h1)
  unfold stepA at h
  split at h
  · split at h
    · rename_i w hw
      simp only [Option.some.injEq, Prod.mk.injEq] at h
      obtain ⟨rfl, rfl, rfl⟩ := h
      obtain ⟨v', h1, h2⟩ := popP_sound (P := S.P) hw he
      unfold Oper.wp
      rw [h1]
      exact hK C v' W a.defers (.refl C) h2 hR hd
    · cases h
  · split at h
    · rename_i w hw
      simp only [Option.some.injEq, Prod.mk.injEq] at h
      obtain ⟨rfl, rfl, rfl⟩ := h
      obtain ⟨v', h1, h2⟩ := lop_sound hR hw he
      unfold Oper.wp
      rw [h1]
      exact hK C v' W a.defers (.refl C) h2 hR hd
    · cases h
  · split at h
    · rename_i x f hx
      simp only [Option.some.injEq, Prod.mk.injEq] at h
      obtain ⟨rfl, rfl, rfl⟩ := h
      obtain ⟨ob, rc, v', h1, h2, h3⟩ := amk_sound (P := S.P) hx he
      have hle := Ctx.bind_le hR.fresh W.heap.size rc
      unfold Oper.wp
      rw [h1]
      exact hK _ _ _ a.defers hle (h3 _ _ _ (Ctx.bind_self _ _ _ _)) (hR.alloc (h2.mono hle)) (hd.mono hle)
    · cases h
  · split at h
    · rename_i c hop
      split at h
      · rename_i f hf
        split at h
        · rename_i g first cap hg
          split at h
          · rename_i w H1 hw
            simp only [Option.some.injEq, Prod.mk.injEq] at h
            obtain ⟨rfl, rfl, rfl⟩ := h
            have hfv := he f
            rw [hg] at hfv
            generalize hfe : a.eval f = fv at hfv
            cases hfv with
            | fn _ _ _ l' m' hl hm =>
              have hargs : VRs C ((first ++ c.args.toList.map ev) ++ cap) ((l' ++ c.args.map a.eval) ++ m').toList := by
                rw [Array.toList_append, Array.toList_append, Array.toList_map]
                exact (hl.append (VRs.ofMap he _)).append hm
              have hrun : (execOp a.eval o).run S.P W = (callFunc g ((l' ++ c.args.map a.eval) ++ m')).run S.P W := by
                unfold execOp
                rw [hop]
                simp only [resolve, hf, hfe, Deferred.ofValue]
                rfl
              unfold Oper.wp
              rw [hrun]
              rcases hcal _ _ _ _ _ hw q C W _ h0 hR hargs with ⟨v', W', h1, C', h2, h3, h4⟩ | ⟨h1, h2⟩
              · rw [h1]
                exact hK C' v' W' a.defers h2 h3 h4 (hd.mono h2)
              · rw [h1]
                refine h2.mono fun e W' ⟨v', he', C', h3, h4, h5⟩ => ?_
                subst he'
                exact hK C' v' W' a.defers h3 h4 h5 (hd.mono h3)
          · cases h
        · cases h
      · split at h
        · rename_i w H1 hw
          simp only [Option.some.injEq, Prod.mk.injEq] at h
          obtain ⟨rfl, rfl, rfl⟩ := h
          exact fromE hK hw
        · cases h
    · rename_i c hop
      split at h
      · rename_i f hf
        split at h
        · rename_i g first cap hg
          simp only [Option.some.injEq, Prod.mk.injEq] at h
          obtain ⟨rfl, rfl, rfl⟩ := h
          have hfv := he f
          rw [hg] at hfv
          generalize hfe : a.eval f = fv at hfv
          cases hfv with
          | fn _ _ _ l' m' hl hm =>
            have hrun : (execOp a.eval o).run S.P W = .ok (.defer { target := .fn (.func g) m', args := l' ++ c.args.map a.eval }) W := by
              unfold execOp
              rw [hop]
              simp only [resolve, hf, hfe, Deferred.ofValue]
              rfl
            unfold Oper.wp
            rw [hrun]
            exact hK C undef W _ (.refl C) (undef_VR C) hR (.cons _ _ _ _ _ _ _ (by rw [Array.toList_append, Array.toList_map]; exact hl.append (VRs.ofMap he _)) hm hd)
        · cases h
      · cases h
    · split at h
      · rename_i w H1 hw
        simp only [Option.some.injEq, Prod.mk.injEq] at h
        obtain ⟨rfl, rfl, rfl⟩ := h
        exact fromE hK hw
      · cases h

/-- The frame. -/
structure FRm (C : Ctx) (nt : Nat) (env : PT AVal) (tmps : Array Value) : Prop where
  size : tmps.size = nt
  rel : ∀ t v, env.get t = some v → VR C v (tmps.getD t undef)
theorem FRm.mono {C D : Ctx} (h : C.Le D) {nt : Nat} {env : PT AVal} {tmps : Array Value} (f : FRm C nt env tmps) : FRm D nt env tmps := ⟨f.size, fun t v ht => (f.rel t v ht).mono h⟩
theorem FRm.put {nt : Nat} {env env' : PT AVal} {a : Act} {dst : Option Tmp} {v : AVal} {v' : Value} (f : FRm C nt env a.tmps) (h : aput nt env dst v = some env') (hv : VR C v v') : FRm C nt env' (a.put dst v').tmps := by
  unfold aput at h
  cases dst with
  | none => simp only [Option.some.injEq] at h; subst h; exact f
  | some d =>
    cases hlt : Nat.blt d nt with
    | false => simp only [hlt] at h; cases h
    | true =>
      simp only [hlt, cond_true, Option.some.injEq] at h
      subst h
      have hlt := Nat.blt_eq.mp hlt
      refine ⟨by simp [Act.put, f.size], fun t w ht => ?_⟩
      rw [PT.get_set] at ht
      by_cases e : t = d
      · subst e
        rw [if_pos rfl] at ht
        cases ht
        have : t < a.tmps.size := by rw [f.size]; exact hlt
        simpa [Act.put, this] using hv
      · rw [if_neg e] at ht
        have := f.rel t w ht
        have hne : ¬ d = t := fun q => e q.symm
        simpa [Act.put, Array.getElem?_setIfInBounds, hne] using this
/-- The variables of packages. -/
def GlobOk (S : St) (C0 : Ctx) : Prop := ∀ g, VR C0 (S.glob g) (.pointer (some ⟨g, 0, none⟩))
theorem evO_sound (hg : GlobOk S C0) (h0 : C0.Le C) {nt : Nat} {env : PT AVal} {a : Act} (f : FRm C nt env a.tmps) (x : Operand) : VR C (evO S env x) (a.eval x) := by
  cases x with
  | tmp t =>
    simp only [evO]
    split
    · rename_i v hv; exact f.rel t v hv
    · exact .top _
  | const v => exact absV_VR C 8 v
  | global g => exact (hg g).mono h0
  | func g => exact .fn _ _ _ _ _ .nil .nil
theorem want_sound {ops : Array Oper} {env : PT AVal} {o : Oper} {b : Bool} (h : wantA ops env o = some b) {tmps : Array Value}
    (hr : ∀ j w p d v, o.guard = some (j, w) → ops[j]? = some p → p.dst = some d → env.get d = some v → VR C v (tmps.getD d undef)) : Region.wanted o (yielded ops tmps) = b := by
  unfold wantA at h
  unfold Region.wanted
  split at h
  · rename_i hg; rw [hg]; simpa using h
  · rename_i j w hg
    rw [hg]
    simp only []
    unfold yielded
    split at h
    · rename_i hj
      simp only [Option.some.injEq] at h; subst h
      rw [hj]; rfl
    · rename_i p hj
      rw [hj]
      split at h
      · rename_i hd
        simp only [Option.some.injEq] at h; subst h
        simp only [Option.bind_some, hd]; rfl
      · rename_i d hd
        have hr := hr j w p d
        split at h
        · rename_i c hc
          simp only [Option.some.injEq] at h; subst h
          have hv := hr _ hg hj hd hc
          simp only [Option.bind_some, hd]
          cases hq : tmps[d]? with
          | none =>
            rw [Array.getD_eq_getD_getElem?, hq] at hv
            cases hv
          | some u =>
            rw [Array.getD_eq_getD_getElem?, hq] at hv
            simp only [Option.getD_some] at hv
            cases hv
            cases c <;> cases w <;> rfl
        · rename_i hc
          simp only [Option.some.injEq] at h; subst h
          have hv := hr _ hg hj hd hc
          simp only [Option.bind_some, hd]
          cases hq : tmps[d]? with
          | none => cases w <;> rfl
          | some u =>
            rw [Array.getD_eq_getD_getElem?, hq] at hv
            simp only [Option.getD_some] at hv
            cases hv
            cases w <;> rfl
        · cases h

/-- A region whose operations come up in their order. -/
theorem runSeq_sound {call : FuncId → List AVal → AHeap → Option (AVal × AHeap)} (hcal : Cal S.P C0 call) (hg : GlobOk S C0) {nt : Nat} {ops : Array Oper} {env' : PT AVal} {ds' : Ds} {H' : AHeap} {Q : Exit → Act → World → Prop} :
    ∀ (r : List Oper) (i : Nat) (C : Ctx) (env : PT AVal) (ds : Ds) (H : AHeap) (W : World) (a : Act), ops.toList.drop i = r → runSeq S call nt ops false r env ds H = some (env', ds', H') → C0.Le C → R S.P q C H W → FRm C nt env a.tmps → DR C ds a.defers →
    (∀ (C' : Ctx) (a' : Act) (W' : World), C.Le C' → R S.P q C' H' W' → FRm C' nt env' a'.tmps → DR C' ds' a'.defers → Q .normal a' W') → wpOps S.P ops Q (List.range' i r.length) a W
  | [], i, C, env, ds, H, W, a, _, h, _, hR, hf, hd, hQ => by
    simp only [runSeq, Option.some.injEq, Prod.mk.injEq] at h
    obtain ⟨rfl, rfl, rfl⟩ := h
    exact hQ C a W (.refl C) hR hf hd
  | o :: r, i, C, env, ds, H, W, a, hr, h, h0, hR, hf, hd, hQ => by
    have ho : ops[i]? = some o := by
      have : (ops.toList.drop i)[0]? = some o := by rw [hr]; rfl
      rw [List.getElem?_drop] at this
      simpa using this
    have hr' : ops.toList.drop (i + 1) = r := by
      rw [← List.drop_drop, hr]; rfl
    simp only [runSeq] at h
    rw [List.length_cons, List.range'_succ]
    simp only [wpOps, ho]
    split at h
    · cases h
    · rename_i hw
      have hwt := want_sound hw (tmps := a.tmps) (fun j w p d v _ _ _ hv => hf.rel d v hv)
      rw [hwt]
      simp only [Bool.false_eq_true, if_false]
      split at h
      · rename_i env1 hp
        exact runSeq_sound hcal hg r (i + 1) C env1 ds H W _ hr' h h0 hR (hf.put hp (undef_VR C)) (by cases hdst : o.dst <;> simpa [Act.put] using hd) hQ
      · cases h
    · rename_i hw
      have hwt := want_sound hw (tmps := a.tmps) (fun j w p d v _ _ _ hv => hf.rel d v hv)
      rw [hwt]
      simp only [if_true]
      split at h
      · cases h
      · rename_i v ds1 H1 hst
        split at h
        · rename_i env1 hp
          refine .inl (stepA_sound hcal hst h0 hR (evO_sound hg h0 hf) hd fun C' v' W' dl hC hv hR' hd' => ?_)
          refine runSeq_sound hcal hg r (i + 1) C' env1 ds1 H1 W' _ hr' h (h0.trans hC) hR' ?_ ?_ fun C2 a2 W2 hC2 => hQ C2 a2 W2 (hC.trans hC2)
          · exact FRm.put (a := { a with defers := dl }) (hf.mono hC) hp hv
          · cases hdst : o.dst <;> simpa [Act.put] using hd'
        · cases h
end
end Ab
end Go.Proofs.YthhnhbpmpdminaaGreatDoor
