/-
Code over the abstract memory, run to its end: the model's code comes to what stands for it. Conditions: the given functions are sound, no function bears the name that the model knows by itself.
-/
import Derived.Test.YthhnhbpmpdminaaGreatDoorAh
namespace Go.Proofs.YthhnhbpmpdminaaGreatDoor
namespace Ab
set_option maxRecDepth 4096

/-- What is asked of the program and of what is given. -/
structure Fit (S : St) (C0 : Ctx) : Prop where
  mixed : S.P.follows .mixedOrders = true
  glob : GlobOk S C0
  ext : ∀ f g, S.ext f = some g → ∀ args H v H', g args H = some (v, H') → CallOk S.P C0 f args H v H'
  name : ∀ (f : Nat) (fn : Func), S.P.funcs[f]? = some fn → fn.body.isSome = true → (fn.name == "runtime.NumGoroutine") = false

def Post (S : St) (q : Nat → Bool) (C : Ctx) (nt : Nat) (x : AExit) (env' : PT AVal) (ds' : Ds) (H' : AHeap) (e : Exit) (a' : Act) (W' : World) : Prop :=
  e = x.toExit ∧ ∃ C', C.Le C' ∧ R S.P q C' H' W' ∧ FRm C' nt env' a'.tmps ∧ DR C' ds' a'.defers
theorem Post.up {S : St} {q : Nat → Bool} {C D : Ctx} (h : C.Le D) {nt : Nat} {x : AExit} {env' : PT AVal} {ds' : Ds} {H' : AHeap} {e : Exit} {a' : Act} {W' : World} (p : Post S q D nt x env' ds' H' e a' W') : Post S q C nt x env' ds' H' e a' W' := by
  obtain ⟨h1, C', h2, h3⟩ := p
  exact ⟨h1, C', h.trans h2, h3⟩
def CodeOk (S : St) (C0 : Ctx) (nt : Nat) (c : Code) (env : PT AVal) (ds : Ds) (H : AHeap) (x : AExit) (env' : PT AVal) (ds' : Ds) (H' : AHeap) : Prop :=
  ∀ (q : Nat → Bool) (C : Ctx) (W : World) (a : Act), C0.Le C → R S.P q C H W → FRm C nt env a.tmps → DR C ds a.defers → c.wp S.P (Post S q C nt x env' ds' H') a W

section
variable {S : St} {C0 : Ctx}
theorem seq_ok {nt : Nat} {c d : Code} {env env1 env' : PT AVal} {ds ds1 ds' : Ds} {H H1 H' : AHeap} {x : AExit} (h1 : CodeOk S C0 nt c env ds H .normal env1 ds1 H1) (h2 : CodeOk S C0 nt d env1 ds1 H1 x env' ds' H') :
    CodeOk S C0 nt (.seq c d) env ds H x env' ds' H' := by
  intro q C W a h0 hR hf hd
  refine wp_seq (wp_mono (h1 q C W a h0 hR hf hd) fun e a1 W1 ⟨he, C1, hC, hR1, hf1, hd1⟩ => ?_)
  subst he
  exact wp_mono (h2 q C1 W1 a1 (h0.trans hC) hR1 hf1 hd1) fun e a2 W2 p => p.up hC
theorem seq_out {nt : Nat} {c d : Code} {env env' : PT AVal} {ds ds' : Ds} {H H' : AHeap} {x : AExit} (h1 : CodeOk S C0 nt c env ds H x env' ds' H') (hx : x ≠ .normal) : CodeOk S C0 nt (.seq c d) env ds H x env' ds' H' := by
  intro q C W a h0 hR hf hd
  refine wp_seq (wp_mono (h1 q C W a h0 hR hf hd) fun e a1 W1 p => ?_)
  obtain ⟨he, p⟩ := p
  subst he
  cases x with
  | normal => exact absurd rfl hx
  | _ => exact ⟨rfl, p⟩
theorem loop_ok {nt : Nat} {b : Code} (I : Nat → PT AVal → Ds → AHeap → Prop) {x : AExit} {env' : PT AVal} {ds' : Ds} {H' : AHeap}
    (round : ∀ n env ds H, I n env ds H → (x ≠ .normal ∧ CodeOk S C0 nt b env ds H x env' ds' H') ∨ ∃ m env1 ds1 H1, m < n ∧ I m env1 ds1 H1 ∧ CodeOk S C0 nt b env ds H .normal env1 ds1 H1)
    {n : Nat} {env : PT AVal} {ds : Ds} {H : AHeap} (hI : I n env ds H) : CodeOk S C0 nt (.loop b) env ds H x env' ds' H' := by
  intro q C W a h0 hR hf hd
  refine wp_loop_ghost (fun n a W => ∃ env ds H C1, I n env ds H ∧ C.Le C1 ∧ R S.P q C1 H W ∧ FRm C1 nt env a.tmps ∧ DR C1 ds a.defers) n ⟨env, ds, H, C, hI, .refl C, hR, hf, hd⟩ ?_
  rintro n a W ⟨env, ds, H, C1, hI, hC1, hR, hf, hd⟩
  rcases round n env ds H hI with ⟨hx, hc⟩ | ⟨m, env1, ds1, H1, hm, hI1, hc⟩
  · refine wp_mono (hc q C1 W a (h0.trans hC1) hR hf hd) fun e a1 W1 ⟨he, C2, hC, p⟩ => ?_
    subst he
    cases x with
    | normal => exact absurd rfl hx
    | _ => exact ⟨rfl, C2, hC1.trans hC, p⟩
  · refine wp_mono (hc q C1 W a (h0.trans hC1) hR hf hd) fun e a1 W1 ⟨he, C2, hC, hR2, hf2, hd2⟩ => ?_
    subst he
    exact ⟨m, hm, env1, ds1, H1, C2, hI1, hC1.trans hC, hR2, hf2, hd2⟩

theorem FRm.start {C : Ctx} {args : List AVal} {args' : Array Value} (h : VRs C args args'.toList) {nt : Nat} (hn : args.length ≤ nt) : FRm C nt (PT.ofList args 0 .lf) (args' ++ Array.replicate (nt - args'.size) undef) := by
  have hl : args.length = args'.size := by have := h.length; simpa using this
  refine ⟨by simp; omega, fun t v ht => ?_⟩
  rw [PT.get_ofList] at ht
  by_cases hlt : 0 ≤ t ∧ t < 0 + args.length
  · rw [if_pos hlt] at ht
    rw [Nat.sub_zero] at ht
    obtain ⟨u, h1, h2⟩ := h.get ht
    have h3 : args'[t]? = some u := by simpa using h1
    rw [Array.getD_eq_getD_getElem?, Array.getElem?_append_left (by omega), h3]
    exact h2
  · rw [if_neg hlt, PT.get_lf] at ht; cases ht
def resOf (tmps : Array Value) : ResultVar → Sem Value
  | .tmp t => pure (tmps.getD t undef)
  | .cell a t => do loadVar t (← asAddr (tmps.getD a undef))
theorem ares1_sound {q : Nat → Bool} {C : Ctx} {H : AHeap} {W : World} (hR : R S.P q C H W) {nt : Nat} {env : PT AVal} {tmps : Array Value} (hf : FRm C nt env tmps) {r : ResultVar} {v : AVal} (h : ares1 S.P H env r = some v) :
    ∃ v', (resOf tmps r).run S.P W = .ok v' W ∧ VR C v v' := by
  cases r with
  | tmp t =>
    simp only [ares1] at h
    split at h
    · rename_i w hw
      simp only [Option.some.injEq] at h; subst h
      exact ⟨_, rfl, hf.rel t _ hw⟩
    · simp only [Option.some.injEq] at h; subst h
      exact ⟨_, rfl, .top _⟩
  | cell a t =>
    simp only [ares1] at h
    split at h
    · rename_i w hw
      have hv := hf.rel a _ hw
      obtain ⟨v', h1, h2⟩ := aload_sound hR h hv
      refine ⟨v', ?_, h2⟩
      show ((asAddr (tmps.getD a undef) >>= fun ad => loadVar t ad : Sem Value).run S.P W) = _
      generalize tmps.getD a undef = av at hv h1
      unfold aload at h
      cases hv with
      | ptr => exact h1
      | rp => exact h1
      | _ => (repeat' split at h) <;> first | cases h | (simp [ldCells] at *)
    · cases h
theorem mapM_list {q : Nat → Bool} {C : Ctx} {H : AHeap} {W : World} (hR : R S.P q C H W) {nt : Nat} {env : PT AVal} {tmps : Array Value} (hf : FRm C nt env tmps) : ∀ (l : List ResultVar) (r : List AVal), l.mapM (ares1 S.P H env) = some r →
    ∃ r', (l.mapM (resOf tmps)).run S.P W = .ok r' W ∧ VRs C r r'
  | [], r, h => by
    simp at h; subst h
    exact ⟨[], by simp, .nil⟩
  | x :: l, r, h => by
    obtain ⟨b, r1, h1, h2, rfl⟩ := mapM_cons_some h
    obtain ⟨v', h3, h4⟩ := ares1_sound hR hf h1
    obtain ⟨r', h5, h6⟩ := mapM_list hR hf l r1 h2
    refine ⟨v' :: r', ?_, .cons _ _ _ _ h4 h6⟩
    rw [List.mapM_cons, Sem.run_bind, h3, Result.andThen_ok, Sem.run_bind, h5]
    rfl
theorem ares_sound {q : Nat → Bool} {C : Ctx} {H : AHeap} {W : World} (hR : R S.P q C H W) {nt : Nat} {env : PT AVal} {tmps : Array Value} (hf : FRm C nt env tmps) {fn : Func} {v : AVal} (h : ares S.P H env fn = some v) :
    ∃ v', (results fn tmps).run S.P W = .ok v' W ∧ VR C v v' := by
  unfold ares at h
  cases hm : fn.results.toList.mapM (ares1 S.P H env) with
  | none => rw [hm] at h; cases h
  | some r =>
    obtain ⟨r', h1, h2⟩ := mapM_list hR hf _ _ hm
    have hrun : ∀ f : Array Value → Sem Value, ((fn.results.mapM (resOf tmps)) >>= f).run S.P W = (f r'.toArray).run S.P W := by
      intro f
      rw [Array.mapM_eq_mapM_toList, Sem.run_bind, Sem.run_map, h1]
      rfl
    have hres : results fn tmps = (fn.results.mapM (resOf tmps) >>= fun vs => pure (if h : vs.size = 1 then vs[0] else .tuple vs)) := rfl
    rw [hres, hrun]
    have hl := h2.length
    rw [hm] at h
    split at h
    · cases h
    · rename_i w hw
      simp only [Option.some.injEq] at h hw; subst h; subst hw
      cases h2 with
      | cons _ u _ _ hu ht =>
        cases ht
        exact ⟨u, rfl, hu⟩
    · rename_i l hne hw
      simp only [Option.some.injEq] at h hw; subst h; subst hw
      have hn1 : ¬ r'.toArray.size = 1 := by
        simp only [List.size_toArray]
        intro e
        rw [← hl] at e
        match r, e, hne with
        | [w], _, hne => exact hne w rfl
      refine ⟨.tuple r'.toArray, ?_, .tup _ _ (by simpa using h2)⟩
      rw [dif_neg hn1]; rfl

def DeferOk (S : St) (C0 : Ctx) (ds : Ds) (H H' : AHeap) : Prop :=
  ∀ (q : Nat → Bool) (C : Ctx) (W : World) (dl : List Deferred) (fn : Func) (tmps : Array Value) (R0 : Ending → World → Prop), C0.Le C → R S.P q C H W → DR C ds dl →
    (∀ (C' : Ctx) (W' : World), C.Le C' → R S.P q C' H' W' → Leaves S.P fn tmps R0 [] .returning W') → Leaves S.P fn tmps R0 dl .returning W
structure AllOk (S : St) (C0 : Ctx) (n : Nat) : Prop where
  code : ∀ nt c env ds H x env' ds' H', acode S nt n c env ds H = some (x, env', ds', H') → CodeOk S C0 nt c env ds H x env' ds' H'
  call : Cal S.P C0 (acall S n)
  defer : ∀ ds H H', adefer S n ds H = some H' → DeferOk S C0 ds H H'
theorem enter_run (F : Fit S C0) {f : FuncId} {fn : Func} {c : Code} (hf : S.P.funcs[f]? = some fn) (hb : fn.body = some c) (args : Array Value) (W : World) : (callFunc f args).run S.P W = .ok (.enter f args) W := by
  have h1 : fn.name ≠ "runtime.NumGoroutine" := by simpa using F.name f fn hf (by rw [hb]; rfl)
  simp [callFunc, hf, h1, hb]
theorem code_ok (F : Fit S C0) (n : Nat) (ih : ∀ m, m < n → AllOk S C0 m) : ∀ nt c env ds H x env' ds' H', acode S nt n c env ds H = some (x, env', ds', H') → CodeOk S C0 nt c env ds H x env' ds' H' := by
  intro nt c env ds H x env' ds' H' h
  cases n with
  | zero => simp [acode] at h
  | succ n =>
    have ihn := ih n (by omega)
    cases c with
    | skip =>
      simp only [acode, Option.some.injEq, Prod.mk.injEq] at h
      obtain ⟨rfl, rfl, rfl, rfl⟩ := h
      intro q C W a h0 hR hf hd
      exact wp_skip ⟨rfl, C, .refl C, hR, hf, hd⟩
    | label l =>
      simp only [acode, Option.some.injEq, Prod.mk.injEq] at h
      obtain ⟨rfl, rfl, rfl, rfl⟩ := h
      intro q C W a h0 hR hf hd
      exact wp_label ⟨rfl, C, .refl C, hR, hf, hd⟩
    | exit id =>
      simp only [acode, Option.some.injEq, Prod.mk.injEq] at h
      obtain ⟨rfl, rfl, rfl, rfl⟩ := h
      intro q C W a h0 hR hf hd
      exact wp_exit ⟨rfl, C, .refl C, hR, hf, hd⟩
    | goto l =>
      simp only [acode, Option.some.injEq, Prod.mk.injEq] at h
      obtain ⟨rfl, rfl, rfl, rfl⟩ := h
      intro q C W a h0 hR hf hd
      exact wp_goto ⟨rfl, C, .refl C, hR, hf, hd⟩
    | ret =>
      simp only [acode, Option.some.injEq, Prod.mk.injEq] at h
      obtain ⟨rfl, rfl, rfl, rfl⟩ := h
      intro q C W a h0 hR hf hd
      exact wp_ret ⟨rfl, C, .refl C, hR, hf, hd⟩
    | region id ops draw =>
      simp only [acode] at h
      cases draw with
      | false =>
        simp only [] at h
        split at h
        · rename_i e1 d1 H1 hr
          simp only [Option.some.injEq, Prod.mk.injEq] at h
          obtain ⟨rfl, rfl, rfl, rfl⟩ := h
          intro q C W a h0 hR hf hd
          refine wp_region ?_
          have := runSeq_sound ihn.call F.glob (Q := Post S q C nt .normal e1 d1 H1) ops.toList 0 C env ds H W a rfl hr h0 hR hf hd fun C' a' W' hC hR' hf' hd' => ⟨rfl, C', hC, hR', hf', hd'⟩
          rw [List.range_eq_range']
          rw [Array.length_toList] at this
          exact this
        · cases h
      | true =>
        simp only [] at h
        split at h
        · rename_i e1 d1 H1 hr
          simp only [Option.some.injEq, Prod.mk.injEq] at h
          obtain ⟨rfl, rfl, rfl, rfl⟩ := h
          intro q C W a h0 hR hf hd
          refine wp_region_any F.mixed ?_
          exact runDraw_sound ihn.call F.glob hr h0 (hR.drew _) hf hd fun C' a' W' hC hR' hf' hd' => ⟨rfl, C', hC, hR', hf', hd'⟩
        · cases h
    | seq a b =>
      simp only [acode] at h
      split at h
      · rename_i e1 d1 H1 h1
        exact seq_ok (ihn.code _ _ _ _ _ _ _ _ _ h1) (ihn.code _ _ _ _ _ _ _ _ _ h)
      · rename_i x1 e1 d1 H1 hne h1
        simp only [Option.some.injEq, Prod.mk.injEq] at h
        obtain ⟨rfl, rfl, rfl, rfl⟩ := h
        exact seq_out (ihn.code _ _ _ _ _ _ _ _ _ h1) (fun e => hne e)
      · cases h
    | cond c p q =>
      simp only [acode] at h
      have key : ∀ t, evO S env c = .bool t → CodeOk S C0 nt (if t then p else q) env ds H x env' ds' H' → CodeOk S C0 nt (.cond c p q) env ds H x env' ds' H' := by
        intro t ht hc q C W a h0 hR hf hd
        have hv := evO_sound F.glob h0 hf c
        rw [ht] at hv
        generalize hce : a.eval c = cv at hv
        cases hv
        exact wp_cond hce (hc q C W a h0 hR hf hd)
      split at h
      · rename_i ht; exact key true ht (ihn.code _ _ _ _ _ _ _ _ _ h)
      · rename_i ht; exact key false ht (ihn.code _ _ _ _ _ _ _ _ _ h)
      · cases h
    | block id b =>
      simp only [acode] at h
      have key : ∀ (x1 : AExit) e1 d1 H1, CodeOk S C0 nt b env ds H x1 e1 d1 H1 → ∀ y : AExit, (∀ q C a' W', Post S q C nt x1 e1 d1 H1 x1.toExit a' W' → Exit.inBlock id (Post S q C nt y e1 d1 H1) x1.toExit a' W') → CodeOk S C0 nt (.block id b) env ds H y e1 d1 H1 := by
        intro x1 e1 d1 H1 hc y hy q C W a h0 hR hf hd
        refine wp_block (wp_mono (hc q C W a h0 hR hf hd) fun e a' W' p => ?_)
        obtain ⟨he, p⟩ := p
        subst he
        exact hy q C a' W' ⟨rfl, p⟩
      split at h
      · rename_i i e1 d1 H1 h1
        have hc := ihn.code _ _ _ _ _ _ _ _ _ h1
        cases hb : Nat.beq i id with
        | true =>
          rw [hb] at h; simp only [cond_true, Option.some.injEq, Prod.mk.injEq] at h
          obtain ⟨rfl, rfl, rfl, rfl⟩ := h
          have := Nat.eq_of_beq_eq_true hb
          subst this
          refine key _ _ _ _ hc _ fun q C a' W' p => ?_
          show (if i = i then _ else _)
          rw [if_pos rfl]
          exact ⟨rfl, p.2⟩
        | false =>
          rw [hb] at h; simp only [cond_false, Option.some.injEq, Prod.mk.injEq] at h
          obtain ⟨rfl, rfl, rfl, rfl⟩ := h
          have hne : ¬ i = id := by rintro rfl; rw [Nat.beq_refl] at hb; cases hb
          refine key _ _ _ _ hc _ fun q C a' W' p => ?_
          show (if i = id then _ else _)
          rw [if_neg hne]
          exact p
      · rename_i x1 e1 d1 H1 hne h1
        simp only [Option.some.injEq, Prod.mk.injEq] at h
        obtain ⟨rfl, rfl, rfl, rfl⟩ := h
        refine key _ _ _ _ (ihn.code _ _ _ _ _ _ _ _ _ h1) _ fun q C a' W' p => ?_
        cases x1 with
        | exit i => exact (hne i rfl).elim
        | _ => exact p
      · cases h
    | loop b =>
      refine loop_ok (fun k env ds H => k ≤ n + 1 ∧ acode S nt k (.loop b) env ds H = some (x, env', ds', H')) ?_ ⟨Nat.le_refl _, h⟩
      rintro k env ds H ⟨hk, hl⟩
      cases k with
      | zero => simp [acode] at hl
      | succ k =>
        have ihk := ih k (by omega)
        simp only [acode] at hl
        split at hl
        · rename_i e1 d1 H1 h1
          exact .inr ⟨k, e1, d1, H1, by omega, ⟨by omega, hl⟩, ihk.code _ _ _ _ _ _ _ _ _ h1⟩
        · rename_i x1 e1 d1 H1 hne h1
          simp only [Option.some.injEq, Prod.mk.injEq] at hl
          obtain ⟨rfl, rfl, rfl, rfl⟩ := hl
          exact .inl ⟨fun e => hne e, ihk.code _ _ _ _ _ _ _ _ _ h1⟩
        · cases hl
    | scope b =>
      simp only [acode] at h
      split at h
      · cases h
      · rename_i x1 e1 d1 H1 hne h1
        simp only [Option.some.injEq, Prod.mk.injEq] at h
        obtain ⟨rfl, rfl, rfl, rfl⟩ := h
        intro q C W a h0 hR hf hd
        refine wp_scope_straight (wp_mono (ihn.code _ _ _ _ _ _ _ _ _ h1 q C W a h0 hR hf hd) fun e a' W' p => ?_)
        obtain ⟨he, p⟩ := p
        subst he
        cases x1 with
        | goto l => exact (hne l rfl).elim
        | _ => exact ⟨rfl, p⟩
      · cases h
    | _ => simp [acode] at h
theorem call_ok (F : Fit S C0) (n : Nat) (ih : ∀ m, m < n → AllOk S C0 m) : Cal S.P C0 (acall S n) := by
  intro f args H v H' h
  cases n with
  | zero => simp [acall] at h
  | succ n =>
    have ihn := ih n (by omega)
    simp only [acall] at h
    split at h
    · rename_i g hg
      exact F.ext f g hg _ _ _ _ h
    · split at h
      · cases h
      · rename_i fn hfn
        split at h
        · cases h
        · rename_i c hb
          cases hlen : Nat.ble args.length fn.ntmps with
          | false => rw [hlen] at h; cases h
          | true =>
            rw [hlen] at h; simp only [cond_true] at h
            have hlen := Nat.le_of_ble_eq_true hlen
            intro q C W args' h0 hR hargs
            refine .inr ⟨enter_run F hfn hb _ _, ?_⟩
            have hstart := FRm.start hargs hlen
            have key : ∀ (x : AExit) env ds H1 H2, (x = .normal ∨ x = .ret) → CodeOk S C0 fn.ntmps c (PT.ofList args 0 .lf) [] H x env ds H1 → adefer S n ds H1 = some H2 → ares S.P H2 env fn = some v → H2 = H' →
                Calls S.P f args' W fun e W' => ∃ v', e = .returned v' ∧ ∃ C', C.Le C' ∧ VR C' v v' ∧ R S.P q C' H' W' := by
              intro x env ds H1 H2 hx hc hdf hres heq
              subst heq
              refine calls_of_wp_defers hfn hb (wp_mono (hc q C W { tmps := args' ++ Array.replicate (fn.ntmps - args'.size) undef, defers := [] } h0 hR hstart .nil) fun e a' W' ⟨he, C1, hC1, hR1, hf1, hd1⟩ => ?_)
              have hl : Leaves S.P fn a'.tmps (fun e W' => ∃ v', e = .returned v' ∧ ∃ C', C.Le C' ∧ VR C' v v' ∧ R S.P q C' H2 W') a'.defers .returning W' := by
                refine ihn.defer ds H1 H2 hdf q C1 W' a'.defers fn a'.tmps _ (h0.trans hC1) hR1 hd1 fun C2 W2 hC2 hR2 => ?_
                obtain ⟨v', h1, h2⟩ := ares_sound hR2 (hf1.mono hC2) hres
                exact ⟨v', h1, v', rfl, C2, hC1.trans hC2, h2, hR2⟩
              subst he
              rcases hx with rfl | rfl
              · exact hl
              · exact hl
            split at h
            · rename_i env ds H1 hac
              split at h
              · rename_i H2 hdf
                split at h
                · rename_i w hres
                  simp only [Option.some.injEq, Prod.mk.injEq] at h
                  obtain ⟨rfl, rfl⟩ := h
                  exact key _ _ _ _ _ (.inl rfl) (ihn.code _ _ _ _ _ _ _ _ _ hac) hdf hres rfl
                · cases h
              · cases h
            · rename_i env ds H1 hac
              split at h
              · rename_i H2 hdf
                split at h
                · rename_i w hres
                  simp only [Option.some.injEq, Prod.mk.injEq] at h
                  obtain ⟨rfl, rfl⟩ := h
                  exact key _ _ _ _ _ (.inr rfl) (ihn.code _ _ _ _ _ _ _ _ _ hac) hdf hres rfl
                · cases h
              · cases h
            · cases h
theorem defer_ok (F : Fit S C0) (n : Nat) (ih : ∀ m, m < n → AllOk S C0 m) : ∀ ds H H', adefer S n ds H = some H' → DeferOk S C0 ds H H' := by
  intro ds H H' h
  cases ds with
  | nil =>
    have : H' = H := by unfold adefer at h; exact (Option.some.inj h).symm
    subst this
    intro q C W dl fn tmps R0 h0 hR hd hfin
    cases hd
    exact hfin C W (.refl C) hR
  | cons d ds =>
    obtain ⟨f, args, cap⟩ := d
    cases n with
    | zero => simp [adefer] at h
    | succ n =>
      have ihn := ih n (by omega)
      simp only [adefer] at h
      split at h
      · cases h
      · rename_i fn1 hfn
        split at h
        · cases h
        · rename_i c hb
          cases hlen : Nat.ble (args ++ cap).length fn1.ntmps with
          | false => rw [hlen] at h; cases h
          | true =>
            rw [hlen] at h; simp only [cond_true] at h
            have hlen := Nat.le_of_ble_eq_true hlen
            have key : ∀ (x : AExit) env H1 w, (x = .normal ∨ x = .ret) → CodeOk S C0 fn1.ntmps c (PT.ofList (args ++ cap) 0 .lf) [] H x env [] H1 → ares S.P H1 env fn1 = some w → adefer S n ds H1 = some H' → DeferOk S C0 ((f, args, cap) :: ds) H H' := by
              intro x env H1 w hx hc hres hrest q C W dl fn tmps R0 h0 hR hd hfin
              cases hd with
              | cons _ _ _ args' cap' _ dl ha hcp ht =>
                have hargs : VRs C (args ++ cap) (args' ++ cap').toList := by rw [Array.toList_append]; exact ha.append hcp
                refine leaves_cons (by simp) (f := f) (args := args' ++ cap') (by show (callFunc f (args' ++ cap')).run S.P W = _; exact enter_run F hfn hb _ _) ?_
                refine (callsD_of_wp (R := fun e W' => ∃ v' C1, e = .returned v' ∧ C.Le C1 ∧ R S.P q C1 H1 W') hfn hb (wp_mono (hc q C W { tmps := (args' ++ cap') ++ Array.replicate (fn1.ntmps - (args' ++ cap').size) undef, defers := [] } h0 hR (FRm.start hargs hlen) .nil) fun e a' W' ⟨he, C1, hC1, hR1, hf1, hd1⟩ => ?_)).mono fun e u' W' ⟨hu, v', C1, he, hC1, hR1⟩ => ?_
                · subst he
                  obtain ⟨v', h1, h2⟩ := ares_sound hR1 hf1 hres
                  have hde : a'.defers = [] := by
                    generalize a'.defers = q at hd1
                    cases hd1; rfl
                  rcases hx with rfl | rfl
                  · exact ⟨hde, v', h1, v', C1, rfl, hC1, hR1⟩
                  · exact ⟨hde, v', h1, v', C1, rfl, hC1, hR1⟩
                · subst he; subst hu
                  exact ihn.defer ds H1 H' hrest q C1 W' dl fn tmps R0 (h0.trans hC1) hR1 (ht.mono hC1) fun C2 W2 hC2 hR2 => hfin C2 W2 (hC1.trans hC2) hR2
            split at h
            · rename_i env H1 hac
              split at h
              · rename_i w hres
                exact key _ _ _ _ (.inl rfl) (ihn.code _ _ _ _ _ _ _ _ _ hac) hres h
              · cases h
            · rename_i env H1 hac
              split at h
              · rename_i w hres
                exact key _ _ _ _ (.inr rfl) (ihn.code _ _ _ _ _ _ _ _ _ hac) hres h
              · cases h
            · cases h
theorem all_ok (F : Fit S C0) (n : Nat) : AllOk S C0 n := by
  induction n using Nat.strongRecOn with
  | _ n ih => exact ⟨code_ok F n ih, call_ok F n ih, defer_ok F n ih⟩
end
end Ab
end Go.Proofs.YthhnhbpmpdminaaGreatDoor
