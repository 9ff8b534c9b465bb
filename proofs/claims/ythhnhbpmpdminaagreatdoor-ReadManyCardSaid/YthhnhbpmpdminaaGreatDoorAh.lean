/-
A region that draws its order, over the abstract memory: all orders come to the one that was run. Conditions: the calls are sound; what reads would read the same wherever it may come up.
-/
import Derived.Test.YthhnhbpmpdminaaGreatDoorAg
namespace Go.Proofs.YthhnhbpmpdminaaGreatDoor
namespace Ab
set_option maxRecDepth 4096

def evT (env : PT AVal) (t : Tmp) : AVal :=
  match env.get t with
  | some v => v
  | none => .top
def valOf (env0 : PT AVal) (vals : Nat → AVal) : Option Nat → Tmp → AVal
  | none, t => evT env0 t
  | some k, _ => vals k
/-- May a read come up where so many operations' effects are done? -/
def compat (P : Program) (ops : Array Oper) (j p : Nat) : Prop :=
  (∀ e oe, ops[e]? = some oe → effA P oe = true → (((Region.before ops).getD j 0).testBit e = true → e < p) ∧ (((Region.before ops).getD e 0).testBit j = true → p ≤ e)) ∧
  ∀ e oe, ops[e]? = some oe → makeA P oe = true → ((Region.before ops).getD j 0).testBit e = true → e < p

/-- A block that is known, and not yet made. -/
def Pend (S : St) (ops : Array Oper) (envs : Nat → PT AVal) (L : Nat → Bool) (p i : Nat) : Prop :=
  ∃ o, ops[i]? = some o ∧ makeA S.P o = true ∧ wantA ops (envs i) o = some true ∧ i < p ∧ L i = false
structure QInv (S : St) (ops : Array Oper) (envs : Nat → PT AVal) (heaps : Nat → AHeap) (q1 : Nat → Bool) (L : Nat → Bool) (q : Nat → Bool) (p : Nat) : Prop where
  iff : ∀ b, q b = true ↔ q1 b = true ∨ ∃ i, Pend S ops envs L p i ∧ b = (heaps i).next
  fresh : ∀ i, Pend S ops envs L p i → q1 (heaps i).next = false
  dist : ∀ i j, Pend S ops envs L p i → Pend S ops envs L p j → (heaps i).next = (heaps j).next → i = j
structure DInv (S : St) (ops : Array Oper) (nt : Nat) (ds : Ds) (envs : Nat → PT AVal) (heaps : Nat → AHeap) (vals : Nat → AVal) (q1 : Nat → Bool) (L : Nat → Bool) (C : Ctx) (a : Act) (W : World) : Prop where
  closed : Closed ops L
  inside : ∀ k, L k = true → k < ops.size
  heap : ∃ p q, p ≤ ops.size ∧ (∀ e oe, ops[e]? = some oe → effA S.P oe = true → (L e = true ↔ e < p)) ∧ (∀ e oe, ops[e]? = some oe → makeA S.P oe = true → L e = true → e < p) ∧ QInv S ops envs heaps q1 L q p ∧ R S.P q C (heaps p) W
  size : a.tmps.size = nt
  env : ∀ t, VR C (valOf (envs 0) vals (lw ops L ops.size t) t) (a.tmps.getD t undef)
  ds : DR C ds a.defers

section
variable {S : St} {C0 : Ctx} {call : FuncId → List AVal → AHeap → Option (AVal × AHeap)} {nt : Nat} {ops : Array Oper} {ds : Ds} {envs : Nat → PT AVal} {heaps : Nat → AHeap} {vals : Nat → AVal}
theorem trace_env (ht : Trace S call nt ops ops.toList ds envs heaps vals) (t : Tmp) : ∀ i, i ≤ ops.size → evT (envs i) t = valOf (envs 0) vals (lw ops (fun _ => true) i t) t
  | 0, _ => rfl
  | i + 1, h => by
    have ih := trace_env ht t i (by omega)
    have ho : ops.toList[i]? = some ops[i] := by simp
    obtain ⟨hp, _⟩ := ht.step i _ ho
    have hd : dstA ops i = ops[i].dst := by unfold dstA; rw [Array.getElem?_eq_getElem (by omega)]; rfl
    unfold aput at hp
    rw [lw]
    split at hp
    · rename_i hn
      simp only [Option.some.injEq] at hp
      rw [← hp, if_neg (by rw [hd, hn]; rintro ⟨_, q⟩; cases q)]
      exact ih
    · rename_i d hn
      cases hlt : Nat.blt d nt with
      | false => rw [hlt] at hp; cases hp
      | true =>
        rw [hlt] at hp; simp only [cond_true, Option.some.injEq] at hp
        rw [← hp]
        by_cases e : d = t
        · subst e
          rw [if_pos ⟨rfl, by rw [hd, hn]⟩]
          unfold evT
          rw [PT.get_set, if_pos rfl]; rfl
        · rw [if_neg (by rw [hd, hn]; rintro ⟨_, q⟩; exact e (Option.some.inj q))]
          unfold evT at ih ⊢
          rw [PT.get_set, if_neg (fun q => e q.symm)]
          exact ih
theorem cls_cases (P : Program) (o : Oper) : (effA P o = true ∧ makeA P o = false ∧ readA P o = false) ∨ (effA P o = false ∧ makeA P o = true ∧ readA P o = false ∧ clsOf P o.op = .A) ∨ (effA P o = false ∧ makeA P o = false ∧ (clsOf P o.op = .P ∨ clsOf P o.op = .L)) := by
  unfold effA readA makeA
  cases clsOf P o.op
  · exact .inr (.inr ⟨rfl, rfl, .inl rfl⟩)
  · exact .inr (.inr ⟨rfl, rfl, .inr rfl⟩)
  · exact .inr (.inl ⟨rfl, rfl, rfl, rfl⟩)
  · exact .inl ⟨rfl, rfl, rfl⟩
theorem step_flat (ht : Trace S call nt ops ops.toList ds envs heaps vals) {i : Nat} {o : Oper} (ho : ops[i]? = some o) (he : effA S.P o = false) (hm : makeA S.P o = true → wantA ops (envs i) o ≠ some true) : heaps (i + 1) = heaps i := by
  obtain ⟨_, hs⟩ := ht.step i o (by simpa using ho)
  rcases hs with ⟨_, _, h3⟩ | ⟨hw, h3⟩
  · exact h3
  · rcases cls_cases S.P o with ⟨h1, _⟩ | ⟨_, h1, _⟩ | ⟨_, _, h1⟩
    · rw [he] at h1; cases h1
    · exact absurd hw (hm h1)
    · unfold stepA at h3
      rcases h1 with h1 | h1
      · rw [h1] at h3
        simp only [] at h3
        split at h3
        · simp only [Option.some.injEq, Prod.mk.injEq] at h3; exact h3.2.2.symm
        · cases h3
      · rw [h1] at h3
        simp only [] at h3
        split at h3
        · simp only [Option.some.injEq, Prod.mk.injEq] at h3; exact h3.2.2.symm
        · cases h3
theorem step_make (ht : Trace S call nt ops ops.toList ds envs heaps vals) {i : Nat} {o : Oper} (ho : ops[i]? = some o) (hm : makeA S.P o = true) (hw : wantA ops (envs i) o = some true) :
    ∃ x f, amk S.P (evN S (envs i) o) o = some (x, f) ∧ vals i = f (heaps i).next ∧ heaps (i + 1) = (heaps i).new x := by
  obtain ⟨_, hs⟩ := ht.step i o (by simpa using ho)
  rcases hs with ⟨hw2, _⟩ | ⟨_, h3⟩
  · rw [hw] at hw2; cases hw2
  · rcases cls_cases S.P o with ⟨_, h1, _⟩ | ⟨_, _, _, h1⟩ | ⟨_, h1, _⟩
    · rw [hm] at h1; cases h1
    · unfold stepA at h3
      rw [h1] at h3
      simp only [] at h3
      split at h3
      · rename_i x f hx
        simp only [Option.some.injEq, Prod.mk.injEq] at h3
        exact ⟨x, f, hx, h3.1.symm, h3.2.2.symm⟩
      · cases h3
    · rw [hm] at h1; cases h1
/-- On, over what makes blocks and has no other effect. -/
theorem adv (ht : Trace S call nt ops ops.toList ds envs heaps vals) {q1 L q : Nat → Bool} {p : Nat} {C : Ctx} {W : World} (hR : R S.P q C (heaps p) W) (hQ : QInv S ops envs heaps q1 L q p) :
    ∀ p2, p ≤ p2 → p2 ≤ ops.size → (∀ e oe, p ≤ e → e < p2 → ops[e]? = some oe → effA S.P oe = false) → (∀ e oe, p ≤ e → e < p2 → ops[e]? = some oe → makeA S.P oe = true → L e = false) →
      ∃ q', R S.P q' C (heaps p2) W ∧ QInv S ops envs heaps q1 L q' p2
  | 0, h, _, _, _ => by
    have : p = 0 := by omega
    subst this
    exact ⟨q, hR, hQ⟩
  | p2 + 1, h, hle, hE, hM => by
    by_cases e : p = p2 + 1
    · subst e; exact ⟨q, hR, hQ⟩
    · obtain ⟨q', hR', hQ'⟩ := adv ht hR hQ p2 (by omega) (by omega) (fun x ox h1 h2 => hE x ox h1 (by omega)) (fun x ox h1 h2 => hM x ox h1 (by omega))
      have ho : ops[p2]? = some ops[p2] := Array.getElem?_eq_getElem (by omega)
      have hne := hE p2 _ (by omega) (by omega) ho
      by_cases hmk : makeA S.P ops[p2] = true ∧ wantA ops (envs p2) ops[p2] = some true
      · obtain ⟨x, f, hx, hv, hh⟩ := step_make ht ho hmk.1 hmk.2
        have hL := hM p2 _ (by omega) (by omega) ho hmk.1
        refine ⟨_, by rw [hh]; exact hR'.reserve x, ?_⟩
        have hp2 : Pend S ops envs L (p2 + 1) p2 := ⟨_, ho, hmk.1, hmk.2, by omega, hL⟩
        have hcase : ∀ i, Pend S ops envs L (p2 + 1) i → i = p2 ∨ Pend S ops envs L p2 i := by
          rintro i ⟨o, h1, h2, h3, h4, h5⟩
          by_cases e : i = p2
          · exact .inl e
          · exact .inr ⟨o, h1, h2, h3, by omega, h5⟩
        have hup : ∀ i, Pend S ops envs L p2 i → Pend S ops envs L (p2 + 1) i := by
          rintro i ⟨o, h1, h2, h3, h4, h5⟩
          exact ⟨o, h1, h2, h3, by omega, h5⟩
        have hltn : ∀ i, Pend S ops envs L p2 i → (heaps i).next < (heaps p2).next := fun i hi => (hR'.res _ ((hQ'.iff _).2 (.inr ⟨i, hi, rfl⟩))).2
        refine ⟨fun b => ?_, fun i hi => ?_, fun i j hi hj hij => ?_⟩
        · by_cases e : b = (heaps p2).next
          · rw [if_pos e]
            exact ⟨fun _ => .inr ⟨p2, hp2, e⟩, fun _ => rfl⟩
          · rw [if_neg e, hQ'.iff b]
            constructor
            · rintro (h1 | ⟨i, h1, h2⟩)
              · exact .inl h1
              · exact .inr ⟨i, hup i h1, h2⟩
            · rintro (h1 | ⟨i, h1, h2⟩)
              · exact .inl h1
              · rcases hcase i h1 with rfl | h3
                · exact absurd h2 e
                · exact .inr ⟨i, h3, h2⟩
        · rcases hcase i hi with rfl | h3
          · cases hq : q1 (heaps i).next with
            | false => rfl
            | true =>
              have := (hR'.res _ ((hQ'.iff _).2 (.inl hq))).2
              omega
          · exact hQ'.fresh i h3
        · rcases hcase i hi with rfl | h3
          · rcases hcase j hj with rfl | h4
            · rfl
            · have := hltn j h4; omega
          · rcases hcase j hj with rfl | h4
            · have := hltn i h3; omega
            · exact hQ'.dist i j h3 h4 hij
      · have hh := step_flat ht ho hne (fun h1 h2 => hmk ⟨h1, h2⟩)
        refine ⟨q', by rw [hh]; exact hR', ?_⟩
        have hsame : ∀ i, Pend S ops envs L (p2 + 1) i ↔ Pend S ops envs L p2 i := by
          intro i
          constructor
          · rintro ⟨o, h1, h2, h3, h4, h5⟩
            have : i ≠ p2 := by
              rintro rfl
              rw [ho] at h1; cases h1
              exact hmk ⟨h2, h3⟩
            exact ⟨o, h1, h2, h3, by omega, h5⟩
          · rintro ⟨o, h1, h2, h3, h4, h5⟩
            exact ⟨o, h1, h2, h3, by omega, h5⟩
        exact ⟨fun b => by rw [hQ'.iff b]; simp only [hsame], fun i hi => hQ'.fresh i ((hsame i).1 hi), fun i j hi hj => hQ'.dist i j ((hsame i).1 hi) ((hsame j).1 hj)⟩
/-- What was made is out of the list of what is to be made. -/
theorem QInv.done {q1 L q : Nat → Bool} {p i : Nat} (h : QInv S ops envs heaps q1 L q p) (hi : Pend S ops envs L p i) : QInv S ops envs heaps q1 (setL L i) (fun j => if j = (heaps i).next then false else q j) p := by
  have hcase : ∀ j, Pend S ops envs (setL L i) p j → j ≠ i ∧ Pend S ops envs L p j := by
    rintro j ⟨o, h1, h2, h3, h4, h5⟩
    have hne : j ≠ i := by rintro rfl; unfold setL at h5; rw [if_pos rfl] at h5; cases h5
    refine ⟨hne, o, h1, h2, h3, h4, ?_⟩
    unfold setL at h5; rwa [if_neg hne] at h5
  refine ⟨fun b => ?_, fun j hj => h.fresh j (hcase j hj).2, fun j k hj hk => h.dist j k (hcase j hj).2 (hcase k hk).2⟩
  by_cases e : b = (heaps i).next
  · rw [if_pos e]
    constructor
    · intro q; cases q
    · rintro (h1 | ⟨j, h1, h2⟩)
      · rw [e, h.fresh i hi] at h1; cases h1
      · exact absurd (h.dist j i (hcase j h1).2 hi (h2.symm.trans e)) (hcase j h1).1
  · rw [if_neg e, h.iff b]
    constructor
    · rintro (h1 | ⟨j, ⟨o, k1, k2, k3, k4, k5⟩, h2⟩)
      · exact .inl h1
      · have hne : j ≠ i := by rintro rfl; exact e h2
        exact .inr ⟨j, ⟨o, k1, k2, k3, k4, by unfold setL; rw [if_neg hne]; exact k5⟩, h2⟩
    · rintro (h1 | ⟨j, h1, h2⟩)
      · exact .inl h1
      · exact .inr ⟨j, (hcase j h1).2, h2⟩
/-- Another one came up. -/
theorem QInv.other {q1 L q : Nat → Bool} {p i p' : Nat} {o : Oper} (h : QInv S ops envs heaps q1 L q p) (ho : ops[i]? = some o) (hn : makeA S.P o = true → wantA ops (envs i) o ≠ some true) (hp : p' = p ∨ (p = i ∧ p' = i + 1)) : QInv S ops envs heaps q1 (setL L i) q p' := by
  have hsame : ∀ j, Pend S ops envs (setL L i) p' j ↔ Pend S ops envs L p j := by
    intro j
    constructor
    · rintro ⟨o', h1, h2, h3, h4, h5⟩
      have hne : j ≠ i := by rintro rfl; rw [ho] at h1; cases h1; exact hn h2 h3
      exact ⟨o', h1, h2, h3, by omega, by unfold setL at h5; rwa [if_neg hne] at h5⟩
    · rintro ⟨o', h1, h2, h3, h4, h5⟩
      have hne : j ≠ i := by rintro rfl; rw [ho] at h1; cases h1; exact hn h2 h3
      exact ⟨o', h1, h2, h3, by omega, by unfold setL; rw [if_neg hne]; exact h5⟩
  exact ⟨fun b => by rw [h.iff b]; simp only [hsame], fun j hj => h.fresh j ((hsame j).1 hj), fun j k hj hk => h.dist j k ((hsame j).1 hj) ((hsame k).1 hk)⟩

theorem draw_step (hcal : Cal S.P C0 call) (hg : GlobOk S C0) (ht : Trace S call nt ops ops.toList ds envs heaps vals)
    (hclash : ∀ x y ox oy, x < y → ops[x]? = some ox → ops[y]? = some oy → clash S.P ops ox oy = true → ((Region.before ops).getD y 0).testBit x = true)
    (hearly : ∀ x y ox oy, x < y → ops[x]? = some ox → ops[y]? = some oy → effA S.P ox = true → makeA S.P oy = true → ((Region.before ops).getD y 0).testBit x = true)
    (hst : ∀ j o p, ops[j]? = some o → readA S.P o = true → wantA ops (envs j) o = some true → p ≤ ops.size → compat S.P ops j p → lop S.P (heaps p) (evN S (envs j) o) o = some (vals j))
    (hsa : ∀ j o p, ops[j]? = some o → makeA S.P o = true → wantA ops (envs j) o = some true → p ≤ ops.size → j < p → compat S.P ops j p → (heaps p).get (heaps j).next = (heaps (j + 1)).get (heaps j).next)
    {q1 L : Nat → Bool} {C : Ctx} {a : Act} {W : World} (h0 : C0.Le C) (hI : DInv S ops nt ds envs heaps vals q1 L C a W) {i : Nat} {o : Oper} (hr : isReady ops L i o)
    {K : Act → World → Prop} {Q : Exit → Act → World → Prop} (hK : ∀ C' a' W', C.Le C' → DInv S ops nt ds envs heaps vals q1 (setL L i) C' a' W' → K a' W') : wpOp S.P ops Q i K a W := by
  have ho := hr.1
  have hi : i < ops.size := (Array.getElem?_eq_some_iff.1 ho).1
  have hlist : ops.toList[i]? = some o := by simpa using ho
  obtain ⟨hput, hs⟩ := ht.step i o hlist
  obtain ⟨p, q, hp, hpe, hpm, hQ, hR⟩ := hI.heap
  -- what its temporaries hold
  have hnames : ∀ t, (namesA ops o).contains t = true → VR C (evT (envs i) t) (a.tmps.getD t undef) := by
    intro t htn
    have hlw := lw_ready hclash hI.closed hI.inside hr htn ops.size
    rw [show min ops.size i = i by omega] at hlw
    rw [trace_env ht t i (by omega), ← hlw]
    exact hI.env t
  have hev : ∀ x, VR C (evN S (envs i) o x) (a.eval x) := by
    intro x
    cases x with
    | tmp t =>
      simp only [evN]
      cases hany : (o.op.operands.toList.any (fun | .tmp u => Nat.beq u t | _ => false)) with
      | false => exact .top _
      | true =>
        refine hnames t ?_
        rw [List.any_eq_true] at hany
        obtain ⟨y, hy1, hy2⟩ := hany
        cases y with
        | tmp u =>
          have := Nat.eq_of_beq_eq_true hy2
          subst this
          unfold namesA Oper.looksAt
          rw [List.contains_iff_mem]
          refine List.mem_append.2 (.inr (List.mem_append.2 (.inl ?_)))
          exact List.mem_filterMap.2 ⟨_, hy1, rfl⟩
        | _ => cases hy2
    | const v => exact absV_VR C 8 v
    | global g => exact (hg g).mono h0
    | func g => exact .fn _ _ _ _ _ .nil .nil
  have hwant : ∀ b, wantA ops (envs i) o = some b → Region.wanted o (yielded ops a.tmps) = b := by
    intro b hb
    refine want_sound (C := C) hb fun j w q d v hgd hj hd hv => ?_
    have := hnames d (by
      unfold namesA Oper.looksAt
      rw [List.contains_iff_mem]
      refine List.mem_append.2 (.inr (List.mem_append.2 (.inr ?_)))
      rw [hgd]
      simp [hj, hd])
    unfold evT at this
    rw [hv] at this
    exact this
  have hbefore : ∀ e oe, e < i → ops[e]? = some oe → effA S.P oe = true → (effA S.P o = true ∨ makeA S.P o = true) → L e = true := by
    intro e oe hlt he hoe hor
    refine ready_anc hI.closed hI.inside hr ?_
    rcases hor with hor | hor
    · exact hclash e i oe o hlt he ho (by unfold clash; rw [hoe, hor]; simp)
    · exact hearly e i oe o hlt he ho hoe hor
  -- what is known behind it
  have after : ∀ (C' : Ctx) (v' : Value) (W' : World) (dl : List Deferred) (p' : Nat) (q' : Nat → Bool), C.Le C' → VR C' (vals i) v' → DR C' ds dl → p' ≤ ops.size → (∀ e oe, ops[e]? = some oe → effA S.P oe = true → (setL L i e = true ↔ e < p')) →
      (∀ e oe, ops[e]? = some oe → makeA S.P oe = true → setL L i e = true → e < p') → QInv S ops envs heaps q1 (setL L i) q' p' → R S.P q' C' (heaps p') W' →
      DInv S ops nt ds envs heaps vals q1 (setL L i) C' (({ a with defers := dl } : Act).put o.dst v') W' := by
    intro C' v' W' dl p' q' hC hv hd hq hqe hqm hQ' hR'
    refine ⟨hI.closed.step hI.inside hr, fun k hk => ?_, ⟨p', q', hq, hqe, hqm, hQ', hR'⟩, ?_, fun t => ?_, ?_⟩
    · unfold setL at hk
      by_cases e : k = i
      · subst e; exact hi
      · rw [if_neg e] at hk; exact hI.inside k hk
    · cases hdst : o.dst <;> simp [Act.put, hI.size]
    · by_cases hd1 : dstA ops i = some t
      · have hod : o.dst = some t := by unfold dstA at hd1; rw [ho] at hd1; exact hd1
        rw [lw_own hclash hI.closed hr hod ops.size hi, hod]
        have hlt : t < nt := by
          unfold aput at hput
          rw [hod] at hput
          cases hb : Nat.blt t nt with
          | false => simp only [hb] at hput; cases hput
          | true => exact Nat.blt_eq.mp hb
        have : t < a.tmps.size := by rw [hI.size]; exact hlt
        simpa [valOf, Act.put, this] using hv
      · rw [lw_other hd1]
        have := (hI.env t).mono hC
        cases hdst : o.dst with
        | none => exact this
        | some d =>
          have hne : d ≠ t := by rintro rfl; exact hd1 (by unfold dstA; rw [ho]; exact hdst)
          simpa [Act.put, Array.getElem?_setIfInBounds, hne] using this
    · cases hdst : o.dst <;> simpa [Act.put] using hd
  have keepE : effA S.P o = false → ∀ e oe, ops[e]? = some oe → effA S.P oe = true → (setL L i e = true ↔ e < p) := by
    intro hne e oe he hee
    have : e ≠ i := by rintro rfl; rw [ho] at he; cases he; rw [hne] at hee; cases hee
    unfold setL; rw [if_neg this]
    exact hpe e oe he hee
  have keepM : makeA S.P o = false → ∀ e oe, ops[e]? = some oe → makeA S.P oe = true → setL L i e = true → e < p := by
    intro hne e oe he hee hL
    have : e ≠ i := by rintro rfl; rw [ho] at he; cases he; rw [hne] at hee; cases hee
    unfold setL at hL; rw [if_neg this] at hL
    exact hpm e oe he hee hL
  have moveE : effA S.P o = true → ∃ q', R S.P q' C (heaps i) W ∧ QInv S ops envs heaps q1 L q' i ∧ (∀ e oe, ops[e]? = some oe → effA S.P oe = true → (setL L i e = true ↔ e < i + 1)) ∧ (∀ e oe, ops[e]? = some oe → makeA S.P oe = true → setL L i e = true → e < i + 1) := by
    intro hee
    have hpi : p ≤ i := by
      rcases Nat.lt_or_ge i p with r | r
      · have := (hpe i o ho hee).2 r
        rw [hr.2.1] at this; cases this
      · exact r
    obtain ⟨q', r1, r2⟩ := adv ht hR hQ i hpi (by omega) (fun e oe h1 h2 he => by
        cases hc : effA S.P oe with
        | false => rfl
        | true =>
          have := (hpe e oe he hc).1 (hbefore e oe h2 he hc (.inl hee))
          omega) (fun e oe h1 h2 he hm => by
        cases hL : L e with
        | false => rfl
        | true => have := hpm e oe he hm hL; omega)
    refine ⟨q', r1, r2, fun e oe he hoe => ?_, fun e oe he hoe hL => ?_⟩
    · unfold setL
      by_cases e1 : e = i
      · subst e1; simp
      · rw [if_neg e1]
        constructor
        · intro hL
          have := (hpe e oe he hoe).1 hL
          omega
        · intro hlt
          exact hbefore e oe (by omega) he hoe (.inl hee)
    · unfold setL at hL
      by_cases e1 : e = i
      · omega
      · rw [if_neg e1] at hL
        have := hpm e oe he hoe hL
        omega
  unfold wpOp
  rw [ho]
  simp only []
  have noMake : ∀ (hn : makeA S.P o = true → wantA ops (envs i) o ≠ some true), makeA S.P o = true ∨ makeA S.P o = false := fun _ => by cases makeA S.P o <;> simp
  rcases hs with ⟨hw, hv, hh⟩ | ⟨hw, hst2⟩
  · rw [hwant _ hw]
    simp only [Bool.false_eq_true, if_false]
    have hvv : VR C (vals i) undef := by rw [hv]; exact undef_VR C
    have hn : makeA S.P o = true → wantA ops (envs i) o ≠ some true := fun _ => by rw [hw]; exact fun q => by cases q
    rcases cls_cases S.P o with ⟨hc, hm, _⟩ | ⟨hc, hm, _, _⟩ | ⟨hc, hm, _⟩
    · obtain ⟨q', m1, m2, m3, m4⟩ := moveE hc
      exact hK C _ W (.refl C) (after C undef W a.defers (i + 1) q' (.refl C) hvv hI.ds (by omega) m3 m4 (m2.other ho hn (.inr ⟨rfl, rfl⟩)) (by rw [hh]; exact m1))
    · -- a maker that is not wanted: past it
      have hEb : ∀ e oe, p ≤ e → e < i + 1 → ops[e]? = some oe → effA S.P oe = false := by
        intro e oe h1 h2 he
        cases hce : effA S.P oe with
        | false => rfl
        | true =>
          have hne : e ≠ i := by rintro rfl; rw [ho] at he; cases he; rw [hc] at hce; cases hce
          have := (hpe e oe he hce).1 (hbefore e oe (by omega) he hce (.inr hm))
          omega
      have hMb : ∀ e oe, p ≤ e → e < i + 1 → ops[e]? = some oe → makeA S.P oe = true → L e = false := by
        intro e oe h1 h2 he hme
        cases hL : L e with
        | false => rfl
        | true => have := hpm e oe he hme hL; omega
      rcases Nat.lt_or_ge i p with r | r
      · refine hK C _ W (.refl C) (after C undef W a.defers p q (.refl C) hvv hI.ds hp (keepE hc) (fun e oe he hme hL => ?_) (hQ.other ho hn (.inl rfl)) hR)
        unfold setL at hL
        by_cases e1 : e = i
        · omega
        · rw [if_neg e1] at hL; exact hpm e oe he hme hL
      · obtain ⟨q', r1, r2⟩ := adv ht hR hQ (i + 1) (by omega) (by omega) hEb hMb
        refine hK C _ W (.refl C) (after C undef W a.defers (i + 1) q' (.refl C) hvv hI.ds (by omega) (fun e oe he hee => ?_) (fun e oe he hme hL => ?_) (r2.other ho hn (.inl rfl)) r1)
        · rw [keepE hc e oe he hee]
          constructor
          · intro h; omega
          · intro h
            rcases Nat.lt_or_ge e p with s | s
            · exact s
            · rw [hEb e oe s h he] at hee; cases hee
        · unfold setL at hL
          by_cases e1 : e = i
          · omega
          · rw [if_neg e1] at hL; have := hpm e oe he hme hL; omega
    · exact hK C _ W (.refl C) (after C undef W a.defers p q (.refl C) hvv hI.ds hp (keepE hc) (keepM hm) (hQ.other ho hn (.inl rfl)) hR)
  · rw [hwant _ hw]
    simp only [if_true]
    refine .inl ?_
    rcases cls_cases S.P o with ⟨hc, hm, _⟩ | ⟨hc, hm, _, hcl⟩ | ⟨hc, hm, hcl⟩
    · obtain ⟨q', m1, m2, m3, m4⟩ := moveE hc
      have hn : makeA S.P o = true → wantA ops (envs i) o ≠ some true := fun h => by rw [hm] at h; cases h
      exact stepA_sound hcal hst2 h0 m1 hev hI.ds fun C' v' W' dl hC hv hR' hd' => hK C' _ W' hC (after C' v' W' dl (i + 1) q' hC hv hd' (by omega) m3 m4 (m2.other ho hn (.inr ⟨rfl, rfl⟩)) hR')
    · -- a maker
      obtain ⟨x, f, hx, hvi, hh⟩ := step_make ht ho hm hw
      have hEb : ∀ e oe, p ≤ e → e < i + 1 → ops[e]? = some oe → effA S.P oe = false := by
        intro e oe h1 h2 he
        cases hce : effA S.P oe with
        | false => rfl
        | true =>
          have hne : e ≠ i := by rintro rfl; rw [ho] at he; cases he; rw [hc] at hce; cases hce
          have := (hpe e oe he hce).1 (hbefore e oe (by omega) he hce (.inr hm))
          omega
      have hMb : ∀ e oe, p ≤ e → e < i + 1 → ops[e]? = some oe → makeA S.P oe = true → L e = false := by
        intro e oe h1 h2 he hme
        cases hL : L e with
        | false => rfl
        | true => have := hpm e oe he hme hL; omega
      have hto : ∃ p' q', i < p' ∧ p' ≤ ops.size ∧ R S.P q' C (heaps p') W ∧ QInv S ops envs heaps q1 L q' p' ∧ (∀ e oe, ops[e]? = some oe → effA S.P oe = true → (L e = true ↔ e < p')) ∧ (∀ e oe, ops[e]? = some oe → makeA S.P oe = true → L e = true → e < p') := by
        rcases Nat.lt_or_ge i p with r | r
        · exact ⟨p, q, r, hp, hR, hQ, hpe, hpm⟩
        · obtain ⟨q', r1, r2⟩ := adv ht hR hQ (i + 1) (by omega) (by omega) hEb hMb
          refine ⟨i + 1, q', by omega, by omega, r1, r2, fun e oe he hee => ?_, fun e oe he hme hL => ?_⟩
          · rw [hpe e oe he hee]
            constructor
            · intro h; omega
            · intro h
              rcases Nat.lt_or_ge e p with s | s
              · exact s
              · rw [hEb e oe s h he] at hee; cases hee
          · have := hpm e oe he hme hL; omega
      obtain ⟨p', q', k1, k2, k3, k4, k5, k6⟩ := hto
      have hpend : Pend S ops envs L p' i := ⟨o, ho, hm, hw, k1, hr.2.1⟩
      have hqb : q' (heaps i).next = true := (k4.iff _).2 (.inr ⟨i, hpend, rfl⟩)
      have hget : (heaps p').get (heaps i).next = some x := by
        rw [hsa i o p' ho hm hw k2 k1 ⟨fun e oe he hee => by
          constructor
          · intro hb
            exact (k5 e oe he hee).1 (ready_anc hI.closed hI.inside hr hb)
          · intro hb
            rcases Nat.lt_or_ge e p' with s | s
            · have hL := (k5 e oe he hee).2 s
              have := hI.closed e oe he hL i hb
              rw [hr.2.1] at this; cases this
            · exact s, fun e oe he hme hb => k6 e oe he hme (ready_anc hI.closed hI.inside hr hb)⟩, hh, AHeap.get_new, if_pos rfl]
      obtain ⟨ob, rc, v', h1, h2, h3⟩ := amk_sound (P := S.P) hx hev
      obtain ⟨r1, r2⟩ := k3.late hqb hget h2
      unfold Oper.wp
      rw [h1]
      refine hK _ _ _ r2 (after _ _ _ a.defers p' _ r2 (by rw [hvi]; exact h3 _ _ _ (Ctx.bind_self _ _ _ _)) (hI.ds.mono r2) k2 (fun e oe he hee => ?_) (fun e oe he hme hL => ?_) (k4.done hpend) r1)
      · have : e ≠ i := by rintro rfl; rw [ho] at he; cases he; rw [hc] at hee; cases hee
        unfold setL; rw [if_neg this]
        exact k5 e oe he hee
      · unfold setL at hL
        by_cases e1 : e = i
        · omega
        · rw [if_neg e1] at hL; exact k6 e oe he hme hL
    · have hn : makeA S.P o = true → wantA ops (envs i) o ≠ some true := fun h => by rw [hm] at h; cases h
      have hst3 : stepA S call (evN S (envs i) o) ds (heaps p) o = some (vals i, ds, heaps p) := by
        rcases hcl with hcl | hcl
        · unfold stepA at hst2 ⊢
          rw [hcl] at hst2 ⊢
          simp only [] at hst2 ⊢
          split at hst2
          · rename_i v hv
            simp only [Option.some.injEq, Prod.mk.injEq] at hst2
            rw [hst2.1]
          · cases hst2
        · have hl := hst i o p ho (by unfold readA; rw [hcl]) hw hp ⟨fun e oe he hee => by
            constructor
            · intro hb
              exact (hpe e oe he hee).1 (ready_anc hI.closed hI.inside hr hb)
            · intro hb
              rcases Nat.lt_or_ge e p with s | s
              · have hL := (hpe e oe he hee).2 s
                have := hI.closed e oe he hL i hb
                rw [hr.2.1] at this; cases this
              · exact s, fun e oe he hme hb => hpm e oe he hme (ready_anc hI.closed hI.inside hr hb)⟩
          unfold stepA
          rw [hcl]
          simp only []
          rw [hl]
      exact stepA_sound hcal hst3 h0 hR hev hI.ds fun C' v' W' dl hC hv hR' hd' => hK C' _ W' hC (after C' v' W' dl p q hC hv hd' hp (keepE hc) (keepM hm) (hQ.other ho hn (.inl rfl)) hR')

/-- How many are still to come. -/
def left (L : Nat → Bool) : Nat → Nat
  | 0 => 0
  | n + 1 => left L n + if L n = true then 0 else 1
theorem left_set {L : Nat → Bool} {i : Nat} (hi : L i = false) : ∀ n, left (setL L i) n + (if i < n then 1 else 0) = left L n
  | 0 => rfl
  | n + 1 => by
    have ih := left_set hi n
    rw [left, left]
    by_cases e : n = i
    · subst e
      have : setL L n n = true := by unfold setL; rw [if_pos rfl]
      rw [this, hi]
      simp at ih ⊢; exact ih
    · have : setL L i n = L n := by unfold setL; rw [if_neg e]
      rw [this]
      by_cases hlt : i < n
      · have e1 : (if i < n then 1 else 0) = 1 := if_pos hlt
        have e2 : (if i < n + 1 then 1 else 0) = 1 := if_pos (by omega)
        rw [e1] at ih; rw [e2]; omega
      · have e1 : (if i < n then 1 else 0) = 0 := if_neg hlt
        have e2 : (if i < n + 1 then 1 else 0) = 0 := if_neg (by omega)
        rw [e1] at ih; rw [e2]; omega
theorem left_zero {L : Nat → Bool} : ∀ n, left L n = 0 → ∀ k, k < n → L k = true
  | 0, _, k, hk => by omega
  | n + 1, h, k, hk => by
    rw [left] at h
    by_cases e : k = n
    · subst e
      by_cases hL : L k = true
      · exact hL
      · rw [if_neg hL] at h; omega
    · exact left_zero n (by omega) k (by omega)
theorem left_least {L : Nat → Bool} : ∀ n, left L n ≠ 0 → ∃ m, m < n ∧ L m = false ∧ ∀ k, k < m → L k = true
  | 0, h => absurd rfl h
  | n + 1, h => by
    by_cases h1 : left L n = 0
    · refine ⟨n, by omega, ?_, fun k hk => left_zero n h1 k hk⟩
      cases hL : L n with
      | false => rfl
      | true => rw [left, h1, hL] at h; simp at h
    · obtain ⟨m, h2, h3, h4⟩ := left_least n h1
      exact ⟨m, by omega, h3, h4⟩
/-- The list of what has come up, as a function. -/
def Lof (listed : Array Bool) : Nat → Bool := fun k => listed.getD k false
theorem Lof_set {listed : Array Bool} {i : Nat} (hi : i < listed.size) : Lof (listed.setIfInBounds i true) = setL (Lof listed) i := by
  funext k
  unfold Lof setL
  rw [Array.getD_eq_getD_getElem?, Array.getElem?_setIfInBounds]
  by_cases e : k = i
  · subst e; simp [hi]
  · rw [if_neg e, if_neg (fun q => e q.symm)]
    show _ = listed.getD k false
    rw [Array.getD_eq_getD_getElem?]
theorem ready_iff {listed : Array Bool} (hs : listed.size = ops.size) {i : Nat} (h : i ∈ Region.ready .any ops listed) : ∃ o, isReady ops (Lof listed) i o := by
  unfold Region.ready at h
  rw [List.mem_filter, List.mem_range] at h
  obtain ⟨h1, h2⟩ := h
  simp only [Bool.and_eq_true, Bool.not_eq_true'] at h2
  obtain ⟨h3, h4⟩ := h2
  rw [Array.getElem?_eq_getElem h1] at h4
  simp only [Option.map_some, Option.getD_some] at h4
  refine ⟨ops[i], Array.getElem?_eq_getElem h1, ?_, fun e he hb => ?_⟩
  · unfold Lof
    rw [Array.getD_eq_getD_getElem?, Array.getElem?_eq_getElem (by omega)] at h3 ⊢
    exact h3
  · rw [Array.all_eq_true'] at h4
    have := h4 e (by simpa using he)
    simp only [hb, Bool.not_true, Bool.false_or] at this
    exact this
theorem ready_of {listed : Array Bool} (hs : listed.size = ops.size) {m : Nat} (hm : m < ops.size) (h1 : Lof listed m = false) (h2 : ∀ e ∈ ops[m].after.toList, Region.binds .any e = true → Lof listed e.on = true) : m ∈ Region.ready .any ops listed := by
  unfold Region.ready
  rw [List.mem_filter, List.mem_range]
  refine ⟨hm, ?_⟩
  simp only [Bool.and_eq_true, Bool.not_eq_true']
  constructor
  · unfold Lof at h1
    rw [Array.getD_eq_getD_getElem?, Array.getElem?_eq_getElem (by omega)] at h1 ⊢
    exact h1
  · rw [Array.getElem?_eq_getElem hm]
    simp only [Option.map_some, Option.getD_some]
    rw [Array.all_eq_true']
    intro e he
    cases hb : Region.binds .any e with
    | false => rfl
    | true => exact h2 e (by simpa using he) hb

theorem draw_all (hcal : Cal S.P C0 call) (hg : GlobOk S C0) (ht : Trace S call nt ops ops.toList ds envs heaps vals)
    (hclash : ∀ x y ox oy, x < y → ops[x]? = some ox → ops[y]? = some oy → clash S.P ops ox oy = true → ((Region.before ops).getD y 0).testBit x = true)
    (hearly : ∀ x y ox oy, x < y → ops[x]? = some ox → ops[y]? = some oy → effA S.P ox = true → makeA S.P oy = true → ((Region.before ops).getD y 0).testBit x = true)
    (hedge : ∀ j o, ops[j]? = some o → ∀ e ∈ o.after.toList, Region.binds .any e = true → e.on < j)
    (hst : ∀ j o p, ops[j]? = some o → readA S.P o = true → wantA ops (envs j) o = some true → p ≤ ops.size → compat S.P ops j p → lop S.P (heaps p) (evN S (envs j) o) o = some (vals j))
    (hsa : ∀ j o p, ops[j]? = some o → makeA S.P o = true → wantA ops (envs j) o = some true → p ≤ ops.size → j < p → compat S.P ops j p → (heaps p).get (heaps j).next = (heaps (j + 1)).get (heaps j).next)
    {q1 : Nat → Bool} {C1 : Ctx} {Q : Exit → Act → World → Prop} (hQ : ∀ C' a' W', C1.Le C' → R S.P q1 C' (heaps ops.size) W' → FRm C' nt (envs ops.size) a'.tmps → DR C' ds a'.defers → Q .normal a' W') :
    ∀ (n : Nat) (listed : Array Bool) (C : Ctx) (a : Act) (W : World), listed.size = ops.size → left (Lof listed) ops.size = n → C0.Le C → C1.Le C → DInv S ops nt ds envs heaps vals q1 (Lof listed) C a W → wpAny S.P .any ops Q n listed a W := by
  have fin : ∀ (listed : Array Bool) (C : Ctx) (a : Act) (W : World), left (Lof listed) ops.size = 0 → C1.Le C → DInv S ops nt ds envs heaps vals q1 (Lof listed) C a W → Q .normal a W := by
    intro listed C a W hl hC hI
    have hall := left_zero ops.size hl
    obtain ⟨p, q, hp, hpe, hpm, hQI, hR⟩ := hI.heap
    obtain ⟨q', hR', hQ'⟩ := adv ht hR hQI ops.size hp (Nat.le_refl _) (fun e oe h1 h2 he => by
      cases hc : effA S.P oe with
      | false => rfl
      | true => have := (hpe e oe he hc).1 (hall e h2); omega) (fun e oe h1 h2 he hm => by
      have := hpm e oe he hm (hall e h2); omega)
    have hqq : q' = q1 := by
      funext b
      have h1 := hQ'.iff b
      have h2 : ¬ ∃ i, Pend S ops envs (Lof listed) ops.size i ∧ b = (heaps i).next := by
        rintro ⟨i, ⟨o, _, _, _, h4, h5⟩, _⟩
        rw [hall i h4] at h5; cases h5
      cases hb : q' b <;> cases hb1 : q1 b
      · rfl
      · have := h1.2 (.inl hb1); rw [hb] at this; cases this
      · rcases h1.1 hb with h3 | h3
        · rw [hb1] at h3; cases h3
        · exact absurd h3 h2
      · rfl
    rw [hqq] at hR'
    have hlw : ∀ t m, m ≤ ops.size → lw ops (Lof listed) m t = lw ops (fun _ => true) m t := by
      intro t m
      induction m with
      | zero => intro _; rfl
      | succ m ih =>
        intro hm
        rw [lw, lw, hall m (by omega), ih (by omega)]
    refine hQ C a W hC hR' ⟨hI.size, fun t v hv => ?_⟩ hI.ds
    have := hI.env t
    rw [hlw t _ (Nat.le_refl _), ← trace_env ht t ops.size (Nat.le_refl _)] at this
    unfold evT at this
    rw [hv] at this
    exact this
  have none_ready : ∀ (listed : Array Bool), listed.size = ops.size → Region.ready .any ops listed = [] → left (Lof listed) ops.size = 0 := by
    intro listed hs hr
    rcases Nat.eq_zero_or_pos (left (Lof listed) ops.size) with q | q
    · exact q
    · exfalso
      obtain ⟨m, h1, h2, h3⟩ := left_least (L := Lof listed) ops.size (by omega)
      have := ready_of hs h1 h2 (fun e he hb => h3 e.on (hedge m _ (Array.getElem?_eq_getElem h1) e he hb))
      rw [hr] at this
      cases this
  intro n
  induction n with
  | zero =>
    intro listed C a W hs hl h0 h1 hI
    refine ⟨?_, fin listed C a W hl h1 hI⟩
    cases hr : Region.ready .any ops listed with
    | nil => rfl
    | cons i r =>
      obtain ⟨o, ho⟩ := ready_iff hs (show i ∈ Region.ready .any ops listed by rw [hr]; exact List.mem_cons_self)
      have := left_zero ops.size hl i (Array.getElem?_eq_some_iff.1 ho.1).1
      rw [ho.2.1] at this; cases this
  | succ n ih =>
    intro listed C a W hs hl h0 h1 hI
    refine ⟨fun hr => ?_, fun i hi => ?_⟩
    · have := none_ready listed hs hr; omega
    · obtain ⟨o, ho⟩ := ready_iff hs hi
      have hlt := (Array.getElem?_eq_some_iff.1 ho.1).1
      refine draw_step hcal hg ht hclash hearly hst hsa h0 hI ho fun C' a' W' hC hI' => ?_
      refine ih _ C' a' W' (by simpa using hs) ?_ (h0.trans hC) (h1.trans hC) (by rw [Lof_set (by omega)]; exact hI')
      rw [Lof_set (by omega)]
      have := left_set ho.2.1 ops.size
      rw [if_pos hlt] at this
      omega
end

section
variable {S : St} {q : Nat → Bool} {C0 C : Ctx} {H : AHeap} {W : World}
theorem drawOk_spec {P : Program} {ops : Array Oper} (h : drawOk P ops = true) : (∀ o ∈ ops.toList, defA o = false) ∧ (∀ j o, ops[j]? = some o → ∀ e ∈ o.after.toList, Region.binds .any e = true → e.on < j) ∧
    (∀ x y ox oy, x < y → ops[x]? = some ox → ops[y]? = some oy → clash P ops ox oy = true → ((Region.before ops).getD y 0).testBit x = true) ∧
    ∀ x y ox oy, x < y → ops[x]? = some ox → ops[y]? = some oy → effA P ox = true → makeA P oy = true → ((Region.before ops).getD y 0).testBit x = true := by
  unfold drawOk at h
  rw [List.all_eq_true] at h
  have key : ∀ j o, ops[j]? = some o → defA o = false ∧ (∀ e ∈ o.after.toList, Region.binds .any e = true → e.on < j) ∧ ∀ x ox, x < j → ops[x]? = some ox → (clash P ops ox o || (effA P ox && makeA P o)) = true → ((Region.before ops).getD j 0).testBit x = true := by
    intro j o ho
    have hj := (Array.getElem?_eq_some_iff.1 ho).1
    have := h j (List.mem_range.2 hj)
    rw [ho] at this
    simp only [Bool.and_eq_true, Bool.not_eq_true'] at this
    obtain ⟨⟨h1, h2⟩, h3⟩ := this
    rw [List.all_eq_true] at h2 h3
    refine ⟨h1, fun e he hb => ?_, fun x ox hx hox hc => ?_⟩
    · have := h2 e he
      rw [hb] at this
      simp only [Bool.not_true, Bool.false_or] at this
      exact Nat.blt_eq.mp this
    · have := h3 x (List.mem_range.2 hx)
      rw [hox] at this
      simp only [] at this
      rw [hc] at this
      simp only [Bool.not_true, Bool.false_or] at this
      exact this
  refine ⟨fun o ho => ?_, fun j o ho => (key j o ho).2.1, fun x y ox oy hxy hx hy hc => (key y oy hy).2.2 x ox hxy hx (by rw [hc]; rfl), fun x y ox oy hxy hx hy h1 h2 => (key y oy hy).2.2 x ox hxy hx (by rw [h1, h2]; simp)⟩
  obtain ⟨j, hj, rfl⟩ := List.getElem_of_mem ho
  exact (key j _ (by simp at hj; simp [hj])).1
theorem loose_spec {P : Program} {ops : Array Oper} (h : loose P ops = false) : ∀ x y ox oy, x < y → ops[x]? = some ox → ops[y]? = some oy →
    (((readA P ox = true ∧ effA P oy = true) ∨ (effA P ox = true ∧ readA P oy = true) ∨ (makeA P ox = true ∧ effA P oy = true) ∨ (makeA P ox = true ∧ readA P oy = true)) → ((Region.before ops).getD y 0).testBit x = true) ∧
    ¬ (readA P ox = true ∧ makeA P oy = true) := by
  intro x y ox oy hxy hx hy
  have key : ((((readA P ox && effA P oy) || (effA P ox && readA P oy) || (makeA P ox && effA P oy) || (makeA P ox && readA P oy)) && !((Region.before ops).getD y 0).testBit x) || (readA P ox && makeA P oy)) = false := by
    cases hk : ((((readA P ox && effA P oy) || (effA P ox && readA P oy) || (makeA P ox && effA P oy) || (makeA P ox && readA P oy)) && !((Region.before ops).getD y 0).testBit x) || (readA P ox && makeA P oy)) with
    | false => rfl
    | true =>
      exfalso
      have : loose P ops = true := by
        unfold loose
        rw [List.any_eq_true]
        refine ⟨y, List.mem_range.2 (Array.getElem?_eq_some_iff.1 hy).1, ?_⟩
        rw [hy]
        simp only []
        rw [List.any_eq_true]
        refine ⟨x, List.mem_range.2 hxy, ?_⟩
        rw [hx]
        exact hk
      rw [h] at this; cases this
  rw [Bool.or_eq_false_iff] at key
  refine ⟨fun hc => ?_, fun hc => by rw [hc.1, hc.2] at key; cases key.2⟩
  cases hb : ((Region.before ops).getD y 0).testBit x with
  | true => rfl
  | false =>
    have k1 := key.1
    rw [hb] at k1
    rcases hc with hc | hc | hc | hc <;> rw [hc.1, hc.2] at k1 <;> simp at k1
theorem start_inv {nt : Nat} {ops : Array Oper} {envs : Nat → PT AVal} {ds : Ds} {heaps : Nat → AHeap} {vals : Nat → AVal} {a : Act} (hR : R S.P q C (heaps 0) W) (hf : FRm C nt (envs 0) a.tmps) (hd : DR C ds a.defers) :
    DInv S ops nt ds envs heaps vals q (Lof (Array.replicate ops.size false)) C a W ∧ left (Lof (Array.replicate ops.size false)) ops.size = ops.size := by
  have hL : Lof (Array.replicate ops.size false) = fun _ => false := by
    funext k; unfold Lof; rw [Array.getD_eq_getD_getElem?, Array.getElem?_replicate]; split <;> rfl
  have hlw : ∀ m t, lw ops (fun _ => false) m t = none := by
    intro m t
    induction m with
    | zero => rfl
    | succ m ih => rw [lw, if_neg (fun q => by cases q.1), ih]
  have hleft : ∀ n, left (fun _ => false) n = n := by
    intro n
    induction n with
    | zero => rfl
    | succ n ih => rw [left, ih]; rfl
  have hnp : ∀ i, ¬ Pend S ops envs (fun _ => false) 0 i := by
    rintro i ⟨_, _, _, _, h, _⟩
    omega
  rw [hL]
  refine ⟨⟨(fun k o _ hk => by cases hk), (fun k hk => by cases hk), ⟨0, q, Nat.zero_le _, (fun e oe _ _ => by simp), (fun e oe _ _ h => by cases h), ⟨fun b => ⟨fun h => .inl h, ?_⟩, fun i hi => absurd hi (hnp i), fun i j hi => absurd hi (hnp i)⟩, hR⟩, hf.size, fun t => ?_, hd⟩, hleft _⟩
  · rintro (h | ⟨i, hi, _⟩)
    · exact h
    · exact absurd hi (hnp i)
  rw [hlw]
  show VR C (evT (envs 0) t) _
  unfold evT
  split
  · rename_i v hv; exact hf.rel t v hv
  · exact .top _
theorem imp_or {x y : Bool} (h : x = true → y = true) : (!x || y) = true := by
  cases x
  · rfl
  · exact h rfl
theorem compatB_of {ops : Array Oper} {j p : Nat} (h : compat S.P ops j p) : compatB S.P ops j p = true := by
  unfold compatB
  rw [List.all_eq_true]
  intro e he
  cases ho : ops[e]? with
  | none => rfl
  | some oe =>
    simp only []
    rw [Bool.and_eq_true]
    constructor
    · refine imp_or fun hee => ?_
      obtain ⟨h1, h2⟩ := h.1 e oe ho hee
      rw [Bool.and_eq_true]
      exact ⟨imp_or fun hb => Nat.blt_eq.mpr (h1 hb), imp_or fun hb => Nat.ble_eq_true_of_le (h2 hb)⟩
    · exact imp_or fun hme => imp_or fun hb => Nat.blt_eq.mpr (h.2 e oe ho hme hb)
theorem beqB_eq {x y : Option ABlk} (h : beqB x y = true) : x = y := by
  unfold beqB at h
  split at h
  · simp only [Bool.and_eq_true] at h
    rw [eq_of_beq h.1.1, eq_of_beq h.1.2, beqL_eq (beqV_eq 100) _ _ h.2]
  · rw [eq_of_beq h]
  · cases h
theorem stabB_spec {ops : Array Oper} {l : List Snap} (h : stabB S ops l = true) {j : Nat} {o : Oper} (ho : ops[j]? = some o) (hr : readA S.P o = true) (hw : wantA ops (l.getD j .no).env o = some true) {p : Nat} (hp : p ≤ ops.size) (hc : compat S.P ops j p) :
    lop S.P (l.getD p .no).heap (evN S (l.getD j .no).env o) o = some (l.getD j .no).val := by
  unfold stabB at h
  rw [List.all_eq_true] at h
  have := h j (List.mem_range.2 (Array.getElem?_eq_some_iff.1 ho).1)
  rw [ho] at this
  simp only [hr, Bool.not_true, Bool.false_or, hw, Bool.and_eq_true] at this
  have this := this.1
  rw [List.all_eq_true] at this
  have := this p (List.mem_range.2 (by omega))
  rw [compatB_of hc] at this
  simp only [Bool.not_true, Bool.false_or] at this
  unfold beqO at this
  split at this
  · rename_i a ha; rw [ha, beqV_eq 100 _ _ this]
  · cases this
theorem stabB_make {ops : Array Oper} {l : List Snap} (h : stabB S ops l = true) {j : Nat} {o : Oper} (ho : ops[j]? = some o) (hr : makeA S.P o = true) (hw : wantA ops (l.getD j .no).env o = some true) {p : Nat} (hp : p ≤ ops.size) (hjp : j < p) (hc : compat S.P ops j p) :
    (l.getD p .no).heap.get (l.getD j .no).heap.next = (l.getD (j + 1) .no).heap.get (l.getD j .no).heap.next := by
  unfold stabB at h
  rw [List.all_eq_true] at h
  have := h j (List.mem_range.2 (Array.getElem?_eq_some_iff.1 ho).1)
  rw [ho] at this
  simp only [hr, Bool.not_true, Bool.false_or, hw, Bool.and_eq_true] at this
  have this := this.2
  rw [List.all_eq_true] at this
  have := this p (List.mem_range.2 (by omega))
  rw [compatB_of hc, Nat.blt_eq.mpr hjp] at this
  simp only [Bool.and_self, Bool.not_true, Bool.false_or] at this
  exact beqB_eq this

theorem runDraw0_sound {call : FuncId → List AVal → AHeap → Option (AVal × AHeap)} (hcal : Cal S.P C0 call) (hg : GlobOk S C0) {nt : Nat} {ops : Array Oper} {env env' : PT AVal} {ds ds' : Ds} {H' : AHeap} {Q : Exit → Act → World → Prop} {a : Act}
    (h : runDraw0 S call nt ops env ds H = some (env', ds', H')) (h0 : C0.Le C) (hR : R S.P q C H W) (hf : FRm C nt env a.tmps) (hd : DR C ds a.defers)
    (hQ : ∀ (C' : Ctx) (a' : Act) (W' : World), C.Le C' → R S.P q C' H' W' → FRm C' nt env' a'.tmps → DR C' ds' a'.defers → Q .normal a' W') : wpAny S.P .any ops Q ops.size (Array.replicate ops.size false) a W := by
  unfold runDraw0 at h
  cases hc : drawOk S.P ops with
  | false => rw [hc] at h; cases h
  | true =>
    rw [hc] at h; simp only [cond_true] at h
    obtain ⟨h1, h2, h3, h4⟩ := drawOk_spec hc
    cases hlo : loose S.P ops with
    | true =>
      rw [hlo] at h; simp only [cond_true] at h
      split at h
      · cases h
      · rename_i l hl
        cases hsb : stabB S ops l with
        | false => rw [hsb] at h; cases h
        | true =>
          rw [hsb] at h; simp only [cond_true, Option.some.injEq, Prod.mk.injEq] at h
          obtain ⟨rfl, rfl, rfl⟩ := h
          obtain ⟨ht, e0, e1⟩ := trace_of_tr _ _ _ _ h1 hl
          obtain ⟨hI, hn⟩ := start_inv (S := S) (ops := ops) (nt := nt) (heaps := fun i => (l.getD i .no).heap) (vals := fun i => (l.getD i .no).val) (envs := fun i => (l.getD i .no).env) (a := a) (ds := ds) (by rw [e1]; exact hR) (by rw [e0]; exact hf) hd
          exact draw_all hcal hg ht h3 h4 h2 (fun j o p ho hr hw hp hcp => stabB_spec hsb ho hr hw hp hcp) (fun j o p ho hr hw hp hjp hcp => stabB_make hsb ho hr hw hp hjp hcp) (C1 := C) hQ ops.size _ C a W (by simp) hn h0 (.refl C) hI
    | false =>
      rw [hlo] at h; simp only [cond_false] at h
      obtain ⟨envs, heaps, vals, ht, e0, e1, e2, e3, e4⟩ := trace_of _ _ _ _ _ _ h1 h
      subst e0; subst e1; subst e4
      rw [Array.length_toList] at e2 e3
      subst e2; subst e3
      obtain ⟨hI, hn⟩ := start_inv (S := S) (ops := ops) (nt := nt) (heaps := heaps) (vals := vals) (envs := envs) (a := a) (ds := ds') hR hf hd
      -- what is there stays while blocks are made
      have stay : ∀ (x : Nat) (p : Nat), x ≤ p → p ≤ ops.size → (∀ e oe, x ≤ e → e < p → ops[e]? = some oe → effA S.P oe = false) → (heaps x).next ≤ (heaps p).next ∧ ∀ b, b < (heaps x).next → (heaps p).get b = (heaps x).get b := by
        intro x p
        induction p with
        | zero => intro h _ _; have : x = 0 := by omega
                  subst this; exact ⟨Nat.le_refl _, fun _ _ => rfl⟩
        | succ p ih =>
          intro hx hp hE
          by_cases e : x = p + 1
          · subst e; exact ⟨Nat.le_refl _, fun _ _ => rfl⟩
          · obtain ⟨i1, i2⟩ := ih (by omega) (by omega) (fun e oe a b => hE e oe a (by omega))
            have ho : ops[p]? = some ops[p] := Array.getElem?_eq_getElem (by omega)
            by_cases hmk : makeA S.P ops[p] = true ∧ wantA ops (envs p) ops[p] = some true
            · obtain ⟨y, f, _, _, hh⟩ := step_make ht ho hmk.1 hmk.2
              rw [hh]
              refine ⟨by show _ ≤ (heaps p).next + 1; omega, fun b hb => ?_⟩
              rw [AHeap.get_new, if_neg (by omega), i2 b hb]
            · rw [step_flat ht ho (hE p _ (by omega) (by omega) ho) (fun a b => hmk ⟨a, b⟩)]
              exact ⟨i1, i2⟩
      have nothing : ∀ (x p : Nat), x ≤ p → p ≤ ops.size → (∀ e oe, x ≤ e → e < p → ops[e]? = some oe → effA S.P oe = false ∧ makeA S.P oe = false) → heaps p = heaps x := by
        intro x p
        induction p with
        | zero => intro h _ _; have : x = 0 := by omega
                  subst this; rfl
        | succ p ih =>
          intro hx hp hE
          by_cases e : x = p + 1
          · subst e; rfl
          · have ho : ops[p]? = some ops[p] := Array.getElem?_eq_getElem (by omega)
            obtain ⟨e1, e2⟩ := hE p _ (by omega) (by omega) ho
            rw [step_flat ht ho e1 (fun a => by rw [e2] at a; cases a)]
            exact ih (by omega) (by omega) (fun e oe a b => hE e oe a (by omega))
      refine draw_all hcal hg ht h3 h4 h2 (fun j o p ho hr hw hp hcp => ?_) (fun j o p ho hm hw hp hjp hcp => ?_) (C1 := C) hQ ops.size _ C a W (by simp) hn h0 (.refl C) hI
      · -- what reads reads the same
        have hj := (Array.getElem?_eq_some_iff.1 ho).1
        have hnj : effA S.P o = false ∧ makeA S.P o = false := by
          rcases cls_cases S.P o with ⟨_, _, h9⟩ | ⟨_, _, h9, _⟩ | ⟨h8, h9, _⟩
          · rw [h9] at hr; cases hr
          · rw [h9] at hr; cases hr
          · exact ⟨h8, h9⟩
        have hh : heaps p = heaps j := by
          rcases Nat.lt_or_ge p j with r | r
          · symm
            refine nothing p j (by omega) (by omega) fun e oe ha hb he => ⟨?_, ?_⟩
            · cases hee : effA S.P oe with
              | false => rfl
              | true =>
                have := (hcp.1 e oe he hee).1 ((loose_spec hlo e j oe o hb he ho).1 (.inr (.inl ⟨hee, hr⟩)))
                omega
            · cases hee : makeA S.P oe with
              | false => rfl
              | true =>
                have := hcp.2 e oe he hee ((loose_spec hlo e j oe o hb he ho).1 (.inr (.inr (.inr ⟨hee, hr⟩))))
                omega
          · refine nothing j p r hp fun e oe ha hb he => ?_
            by_cases hej : e = j
            · subst hej; rw [ho] at he; cases he; exact hnj
            · refine ⟨?_, ?_⟩
              · cases hee : effA S.P oe with
                | false => rfl
                | true =>
                  have := (hcp.1 e oe he hee).2 ((loose_spec hlo j e o oe (by omega) ho he).1 (.inl ⟨hr, hee⟩))
                  omega
              · cases hee : makeA S.P oe with
                | false => rfl
                | true => exact absurd ⟨hr, hee⟩ (loose_spec hlo j e o oe (by omega) ho he).2
        rw [hh]
        obtain ⟨_, hs⟩ := ht.step j o (by simpa using ho)
        rcases hs with ⟨hw2, _⟩ | ⟨_, hs⟩
        · rw [hw] at hw2; cases hw2
        · unfold stepA at hs
          unfold readA at hr
          cases hcl : clsOf S.P o.op with
          | P => rw [hcl] at hr; cases hr
          | E => rw [hcl] at hr; cases hr
          | A => rw [hcl] at hr; cases hr
          | L =>
            rw [hcl] at hs
            simp only [] at hs
            split at hs
            · rename_i v hv
              simp only [Option.some.injEq, Prod.mk.injEq] at hs
              rw [hv, hs.1]
            · cases hs
      · obtain ⟨x, f, _, _, hh⟩ := step_make ht ho hm hw
        have hnx : (heaps j).next < (heaps (j + 1)).next := by rw [hh]; show _ < (heaps j).next + 1; omega
        refine (stay (j + 1) p (by omega) hp (fun e oe ha hb he => ?_)).2 _ hnx
        cases hee : effA S.P oe with
        | false => rfl
        | true =>
          have := (hcp.1 e oe he hee).2 ((loose_spec hlo j e o oe (by omega) ho he).1 (.inr (.inr (.inl ⟨hm, hee⟩))))
          omega

theorem permOk_spec {ops : Array Oper} {perm : List Nat} (h : permOk ops perm = true) : perm.length = ops.size ∧ (∀ i, i < ops.size → invOf perm i < ops.size ∧ perm[invOf perm i]? = some i) ∧ (∀ j, j < ops.size → ∃ i, perm[j]? = some i ∧ i < ops.size ∧ invOf perm i = j) ∧
    ∀ (i : Nat) (o : Oper), ops[i]? = some o → (∀ e ∈ o.after.toList, Region.binds .any e = true → e.on < ops.size) ∧ ∀ j w, o.guard = some (j, w) → j < ops.size := by
  unfold permOk at h
  rw [Bool.and_eq_true, List.all_eq_true] at h
  obtain ⟨h1, h2⟩ := h
  have h1 := Nat.eq_of_beq_eq_true h1
  have key : ∀ i, i < ops.size → perm.contains i = true ∧ invOf perm (perm.getD i 0) = i ∧ perm.getD i 0 < ops.size ∧ ∃ o, ops[i]? = some o ∧ (∀ e ∈ o.after.toList, Region.binds .any e = true → e.on < ops.size) ∧ ∀ j w, o.guard = some (j, w) → j < ops.size := by
    intro i hi
    have := h2 i (List.mem_range.2 hi)
    simp only [Bool.and_eq_true] at this
    obtain ⟨⟨⟨k1, k2⟩, k3⟩, k4⟩ := this
    refine ⟨k1, Nat.eq_of_beq_eq_true k2, Nat.blt_eq.mp k3, ops[i], Array.getElem?_eq_getElem hi, ?_⟩
    rw [Array.getElem?_eq_getElem hi] at k4
    simp only [Bool.and_eq_true] at k4
    obtain ⟨k5, k6⟩ := k4
    rw [List.all_eq_true] at k5
    refine ⟨fun e he hb => ?_, fun j w hg => ?_⟩
    · have := k5 e he
      rw [hb] at this
      simp only [Bool.not_true, Bool.false_or] at this
      exact Nat.blt_eq.mp this
    · rw [hg] at k6; exact Nat.blt_eq.mp k6
  refine ⟨h1, fun i hi => ?_, fun j hj => ?_, fun i o ho => ?_⟩
  · obtain ⟨k1, _⟩ := key i hi
    have hm : i ∈ perm := by simpa using k1
    have hlt := List.idxOf_lt_length_of_mem hm
    refine ⟨by unfold invOf; omega, ?_⟩
    unfold invOf
    rw [List.getElem?_eq_getElem hlt, List.getElem_idxOf]
  · obtain ⟨_, k2, k3, _⟩ := key j hj
    have : perm[j]? = some (perm.getD j 0) := by
      rw [List.getD_eq_getElem?_getD, List.getElem?_eq_getElem (by omega)]; rfl
    exact ⟨_, this, k3, k2⟩
  · obtain ⟨_, _, _, o', ho', k⟩ := key i (Array.getElem?_eq_some_iff.1 ho).1
    rw [ho] at ho'; cases ho'
    exact k
theorem filterMap_get {ops : Array Oper} {g : Oper → Oper} : ∀ (perm : List Nat), (∀ i ∈ perm, i < ops.size) → ∀ j : Nat, (perm.filterMap fun (i : Nat) => (ops[i]?).map g)[j]? = (perm[j]?).bind fun (i : Nat) => (ops[i]?).map g
  | [], _, j => by simp
  | i :: perm, h, j => by
    have hi := h i List.mem_cons_self
    rw [List.filterMap_cons, Array.getElem?_eq_getElem hi]
    simp only [Option.map_some]
    cases j with
    | zero => simp [Array.getElem?_eq_getElem hi]
    | succ j => simpa using filterMap_get perm (fun k hk => h k (List.mem_cons_of_mem _ hk)) j
theorem perm_get {ops : Array Oper} {perm : List Nat} (h : permOk ops perm = true) : (permOps ops perm).size = ops.size ∧ ∀ i o, ops[i]? = some o → (permOps ops perm)[invOf perm i]? = some (relab (invOf perm) o) := by
  obtain ⟨h1, h2, h3, h4⟩ := permOk_spec h
  have hlt : ∀ i ∈ perm, i < ops.size := by
    intro i hi
    obtain ⟨j, hj, rfl⟩ := List.getElem_of_mem hi
    obtain ⟨i, k1, k2, _⟩ := h3 j (by omega)
    rw [List.getElem?_eq_getElem hj] at k1
    cases k1; exact k2
  have hg := filterMap_get (g := relab (invOf perm)) perm hlt
  constructor
  · unfold permOps
    rw [List.size_toArray, ← h1]
    have : ∀ (l : List Nat), (∀ i ∈ l, i < ops.size) → (l.filterMap fun i => (ops[i]?).map (relab (invOf perm))).length = l.length := by
      intro l
      induction l with
      | nil => intro _; rfl
      | cons i l ih =>
        intro hl
        rw [List.filterMap_cons, Array.getElem?_eq_getElem (hl i List.mem_cons_self)]
        simp [ih (fun k hk => hl k (List.mem_cons_of_mem _ hk))]
    exact this perm hlt
  · intro i o ho
    obtain ⟨_, k2⟩ := h2 i (Array.getElem?_eq_some_iff.1 ho).1
    unfold permOps
    rw [List.getElem?_toArray, hg, k2]
    simp [ho]
theorem perm_wp {P : Program} {ops : Array Oper} {perm : List Nat} (h : permOk ops perm = true) {Q : Exit → Act → World → Prop} : ∀ (n : Nat) (L L' : Array Bool) (a : Act) (W : World), L.size = ops.size → L'.size = ops.size →
    (∀ i, i < ops.size → Lof L' (invOf perm i) = Lof L i) → wpAny P .any (permOps ops perm) Q n L' a W → wpAny P .any ops Q n L a W := by
  obtain ⟨h1, h2, h3, h4⟩ := permOk_spec h
  obtain ⟨g1, g2⟩ := perm_get h
  have fwd : ∀ (L L' : Array Bool), L.size = ops.size → L'.size = ops.size → (∀ i, i < ops.size → Lof L' (invOf perm i) = Lof L i) → ∀ i, i ∈ Region.ready .any ops L → invOf perm i ∈ Region.ready .any (permOps ops perm) L' := by
    intro L L' hs hs' hL i hi
    obtain ⟨o, ho, hl, he⟩ := ready_iff hs hi
    have hi' := (Array.getElem?_eq_some_iff.1 ho).1
    have hget := g2 i o ho
    have hlt := (Array.getElem?_eq_some_iff.1 hget).1
    refine ready_of (by omega) hlt (by rw [hL i hi']; exact hl) fun e he' hb => ?_
    rw [(Array.getElem?_eq_some_iff.1 hget).2] at he'
    have he2 : e ∈ ((o.after.toList.filter (Region.binds .any)).map fun e => ({ e with on := invOf perm e.on } : Edge)) := by simpa [relab] using he'
    obtain ⟨e0, k1, rfl⟩ := List.mem_map.1 he2
    obtain ⟨k2, k3⟩ := List.mem_filter.1 k1
    show Lof L' (invOf perm e0.on) = true
    rw [hL _ ((h4 i o ho).1 e0 k2 k3)]
    exact he e0 k2 k3
  have bwd : ∀ (L L' : Array Bool), L.size = ops.size → L'.size = ops.size → (∀ i, i < ops.size → Lof L' (invOf perm i) = Lof L i) → ∀ j, j ∈ Region.ready .any (permOps ops perm) L' → ∃ i, i ∈ Region.ready .any ops L := by
    intro L L' hs hs' hL j hj
    obtain ⟨o', ho', hl, he⟩ := ready_iff (by omega) hj
    have hj' := (Array.getElem?_eq_some_iff.1 ho').1
    obtain ⟨i, k1, k2, k3⟩ := h3 j (by omega)
    have ho : ops[i]? = some ops[i] := Array.getElem?_eq_getElem k2
    have hget := g2 i _ ho
    rw [k3, ho'] at hget
    cases hget
    refine ⟨i, ready_of hs k2 (by rw [← hL i k2, k3]; exact hl) fun e he' hb => ?_⟩
    have hon := (h4 i _ ho).1 e he' hb
    rw [← hL e.on hon]
    refine he ({ e with on := invOf perm e.on } : Edge) ?_ hb
    simp only [relab, List.toList_toArray]
    exact List.mem_map.2 ⟨e, List.mem_filter.2 ⟨he', hb⟩, rfl⟩
  intro n
  induction n with
  | zero =>
    intro L L' a W hs hs' hL hw
    refine ⟨?_, hw.2⟩
    cases hr : Region.ready .any ops L with
    | nil => rfl
    | cons i r =>
      have := fwd L L' hs hs' hL i (by rw [hr]; exact List.mem_cons_self)
      rw [hw.1] at this; cases this
  | succ n ih =>
    intro L L' a W hs hs' hL hw
    refine ⟨fun hr => hw.1 ?_, fun i hi => ?_⟩
    · cases hr' : Region.ready .any (permOps ops perm) L' with
      | nil => rfl
      | cons j r =>
        obtain ⟨i, hi⟩ := bwd L L' hs hs' hL j (by rw [hr']; exact List.mem_cons_self)
        rw [hr] at hi; cases hi
    · obtain ⟨o, ho, hl, he⟩ := ready_iff hs hi
      have hi' := (Array.getElem?_eq_some_iff.1 ho).1
      have hget := g2 i o ho
      have hlt := (h2 i hi').1
      have hw2 := hw.2 _ (fwd L L' hs hs' hL i hi)
      have hK : ∀ a' W', wpAny P .any (permOps ops perm) Q n (L'.setIfInBounds (invOf perm i) true) a' W' → wpAny P .any ops Q n (L.setIfInBounds i true) a' W' := by
        intro a' W' hh
        refine ih _ _ a' W' (by simpa using hs) (by simpa using hs') (fun k hk => ?_) hh
        rw [Lof_set (by omega), Lof_set (by omega)]
        unfold setL
        by_cases e : k = i
        · subst e; simp
        · have : invOf perm k ≠ invOf perm i := by
            intro e2
            have k1 := (h2 k hk).2
            rw [e2, (h2 i hi').2] at k1
            exact e (Option.some.inj k1).symm
          rw [if_neg e, if_neg this]
          exact hL k hk
      have hw3 := wpOp_mono hK hw2
      unfold wpOp at hw3 ⊢
      rw [hget] at hw3
      rw [ho]
      have hwant : Region.wanted (relab (invOf perm) o) (yielded (permOps ops perm) a.tmps) = Region.wanted o (yielded ops a.tmps) := by
        unfold Region.wanted
        cases hg : o.guard with
        | none => simp [relab, hg]
        | some jw =>
          obtain ⟨j, w⟩ := jw
          have hj := (h4 i o ho).2 j w hg
          have hgj := g2 j _ (Array.getElem?_eq_getElem hj)
          have : yielded (permOps ops perm) a.tmps (invOf perm j) = yielded ops a.tmps j := by
            unfold yielded
            rw [hgj, Array.getElem?_eq_getElem hj]; rfl
          simp only [relab, hg, this]
      simp only [] at hw3 ⊢
      rw [hwant] at hw3
      exact hw3
theorem runDraw_sound {call : FuncId → List AVal → AHeap → Option (AVal × AHeap)} (hcal : Cal S.P C0 call) (hg : GlobOk S C0) {nt : Nat} {ops : Array Oper} {env env' : PT AVal} {ds ds' : Ds} {H' : AHeap} {Q : Exit → Act → World → Prop} {a : Act}
    (h : runDraw S call nt ops env ds H = some (env', ds', H')) (h0 : C0.Le C) (hR : R S.P q C H W) (hf : FRm C nt env a.tmps) (hd : DR C ds a.defers)
    (hQ : ∀ (C' : Ctx) (a' : Act) (W' : World), C.Le C' → R S.P q C' H' W' → FRm C' nt env' a'.tmps → DR C' ds' a'.defers → Q .normal a' W') : wpAny S.P .any ops Q ops.size (Array.replicate ops.size false) a W := by
  unfold runDraw at h
  cases hc : drawOk S.P ops with
  | true =>
    rw [hc] at h; simp only [cond_true] at h
    exact runDraw0_sound hcal hg h h0 hR hf hd hQ
  | false =>
    rw [hc] at h; simp only [cond_false] at h
    generalize asapGo S.P ops ops.size [] = perm at h
    cases hp : permOk ops perm with
    | false => rw [hp] at h; cases h
    | true =>
      rw [hp] at h; simp only [cond_true] at h
      have hsz := (perm_get hp).1
      have := runDraw0_sound hcal hg h h0 hR hf hd hQ
      rw [hsz] at this
      refine perm_wp hp ops.size _ _ a W (by simp) (by simp) (fun i hi => ?_) this
      unfold Lof
      rw [Array.getD_eq_getD_getElem?, Array.getD_eq_getD_getElem?, Array.getElem?_replicate, Array.getElem?_replicate]
      have e : ∀ c : Prop, ∀ [Decidable c], (if c then some false else none : Option Bool).getD false = false := fun c _ => by split <;> rfl
      rw [e, e]
end
end Ab
end Go.Proofs.YthhnhbpmpdminaaGreatDoor
