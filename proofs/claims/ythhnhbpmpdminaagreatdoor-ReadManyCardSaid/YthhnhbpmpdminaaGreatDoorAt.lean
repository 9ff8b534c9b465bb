/-
Operations over the abstract memory: each stands for the model's (those that look at memory, or make or write it). Conditions: none.
-/
import Derived.Test.YthhnhbpmpdminaaGreatDoorAs
import Derived.Laws.IdiomStrings
import Derived.Laws.StructEq
namespace Go.Proofs.YthhnhbpmpdminaaGreatDoor
namespace Ab
set_option maxRecDepth 4096

/-- What a search of a map tells. -/
inductive FR (C : Ctx) : Option (Nat × AVal) → Option (Nat × Value) → Prop
  | none : FR C none none
  | some (i : Nat) (a : AVal) (v : Value) (h : VR C a v) : FR C (some (i, a)) (some (i, v))
section
variable {P : Program} {C : Ctx}
theorem str_beq (s u : ByteArray) : (s.data.toList == u.data.toList) = (s == u) := by
  show _ = (s.data == u.data)
  by_cases e : s.data = u.data
  · rw [e]; simp
  · have : ¬ s.data.toList = u.data.toList := fun q => e (Array.toList_inj.1 q)
    rw [beq_eq_false_iff_ne.2 this, beq_eq_false_iff_ne.2 e]
theorem asameNow_sound {d : TypeDesc} {x y : AVal} {xv yv : Value} {b : Bool} (h : asameNow d x y = some b) (hx : VR C x xv) (hy : VR C y yv) : Instr.sameNow d xv yv = some b := by
  unfold asameNow at h
  split at h
  · cases hx; cases hy
    simpa [Instr.sameNow] using h
  · cases hx; cases hy
    simp only [Option.some.injEq] at h; subst h
    simp only [Instr.sameNow, str_beq]
  · cases hx; cases hy
    simpa [Instr.sameNow] using h
  · cases h
theorem afindNow_sound {d : TypeDesc} {k : AVal} {kv : Value} (hk : VR C k kv) : ∀ (es : List (AVal × AVal × Nat)) (es' : List MapEntry) (i : Nat) (r : Option (Nat × AVal)), ERs C es es' → afindNow d k es i = some r →
    ∃ r', Instr.findNow d kv es' i = some r' ∧ FR C r r'
  | [], _, i, r, he, h => by
    cases he
    simp only [afindNow, Option.some.injEq] at h; subst h
    exact ⟨none, rfl, .none⟩
  | e :: es, _, i, r, he, h => by
    cases he with
    | cons _ e' _ es' h1 ht =>
      simp only [afindNow] at h
      split at h
      · rename_i hs
        simp only [Option.some.injEq] at h; subst h
        exact ⟨some (i, e'.val), by simp only [Instr.findNow, asameNow_sound hs hk h1.key], .some _ _ _ h1.val⟩
      · rename_i hs
        obtain ⟨r', h2, h3⟩ := afindNow_sound hk es es' (i + 1) r ht h
        exact ⟨r', by simp only [Instr.findNow, asameNow_sound hs hk h1.key, h2], h3⟩
      · cases h
theorem alinEq_sound {k k' : IntKind} {a b c d lo hi : Int} {r : Bool} (h : alinEq k k' a b c d lo hi = some r) (h1 : lo ≤ C.w) (h2 : C.w ≤ hi) : k = k' ∧ ((a * C.w + b) == (c * C.w + d)) = r := by
  unfold alinEq at h
  cases hk : decide (k = k') with
  | false => rw [hk] at h; cases h
  | true =>
    rw [hk] at h; simp only [cond_true] at h
    obtain ⟨e1, e2⟩ := lin_bounds (a := a - c) (b := b - d) h1 h2
    rw [lin_sub] at e1 e2
    have e3 := acmp_sound h e1 e2
    refine ⟨of_decide_eq_true hk, ?_⟩
    simp only [Op.intCmp] at e3
    injection e3 with e3
    injection e3 with e3
theorem aeqF_sound {q : TypeId → AVal → AVal → Option Bool} {d : Nat} (hq : ∀ {t x y b xv yv}, q t x y = some b → VR C x xv → VR C y yv → ∀ W, (Op.equalIn d t xv yv).run P W = .ok b W) {xs ys : List AVal} {xs' ys' : Array Value} (hx : VRs C xs xs'.toList) (hy : VRs C ys ys'.toList) :
    ∀ (fs : List Field) {b : Bool}, aeqF P q xs ys fs = some b → ∀ W, (Op.eqFields d xs' ys' fs).run P W = .ok b W
  | [], b, h, W => by
    simp only [aeqF, Option.some.injEq] at h; subst h; rfl
  | f :: fs, b, h, W => by
    simp only [aeqF] at h
    cases hn : (f.name == "_") with
    | true =>
      rw [hn] at h; simp only [cond_true] at h
      have hn := eq_of_beq hn
      simp only [Op.eqFields, hn, ne_eq, not_true_eq_false, if_false]
      exact aeqF_sound hq hx hy fs h W
    | false =>
      rw [hn] at h; simp only [cond_false] at h
      have hn : f.name ≠ "_" := fun e => by rw [e] at hn; simp at hn
      simp only [Op.eqFields, if_pos hn]
      split at h
      · rename_i a c ha hc
        obtain ⟨av, a1, a2⟩ := apart_sound ha hx
        obtain ⟨cv, c1, c2⟩ := apart_sound hc hy
        rw [Sem.run_bind, a1, Result.andThen_ok, Sem.run_bind, c1, Result.andThen_ok, Sem.run_bind]
        split at h
        · rename_i hr
          rw [hq hr a2 c2 W, Result.andThen_ok]
          exact aeqF_sound hq hx hy fs h W
        · rename_i hr
          simp only [Option.some.injEq] at h; subst h
          rw [hq hr a2 c2 W, Result.andThen_ok]; rfl
        · cases h
      · cases h
theorem aeqIn_sound : ∀ (n : Nat) {t : TypeId} {x y : AVal} {b : Bool} {xv yv : Value}, aeqIn P n t x y = some b → VR C x xv → VR C y yv → ∀ (m : Nat) (W : World), (Op.equalIn (m + n) t xv yv).run P W = .ok b W
  | 0, _, _, _, _, _, _, h, _, _, _, _ => by cases h
  | n + 1, t, x, y, b, xv, yv, h, hx, hy, m, W => by
    rw [show m + (n + 1) = (m + n) + 1 from rfl]
    unfold aeqIn at h
    split at h
    · cases h
    · rename_i i hti
      have hs := tiOf_spec hti
      have ints : ∀ {kk : IntKind} {k k' : IntKind} {p q : Int}, i.desc = .int kk → k = k' ∧ (p == q) = b → (Op.equalIn ((m + n) + 1) t (.int k p) (.int k' q)).run P W = .ok b W := by
        intro kk k k' p q hd ⟨e1, e2⟩
        subst e1
        rw [Op.equalIn, Sem.run_bind, run_und hs, Result.andThen_ok, hd]
        simp only [if_true, Sem.run_pure, e2]
      split at h
      · rename_i hd
        cases hx; cases hy
        rename_i k p k' q
        cases hk : decide (k = k') with
        | false => rw [hk] at h; cases h
        | true =>
          rw [hk] at h; simp only [cond_true, Option.some.injEq] at h
          exact ints hd ⟨of_decide_eq_true hk, h⟩
      · rename_i hd
        cases hx with
        | lin _ _ _ _ _ h1 h2 => cases hy with
          | lin => exact ints hd (alinEq_sound h h1 h2)
      · rename_i hd
        cases hx with
        | lin _ _ _ _ _ h1 h2 => cases hy with
          | int =>
            have := alinEq_sound h h1 h2
            rw [Int.zero_mul, Int.zero_add] at this
            exact ints hd this
      · rename_i hd
        cases hy with
        | lin _ _ _ _ _ h1 h2 => cases hx with
          | int =>
            have := alinEq_sound h h1 h2
            rw [Int.zero_mul, Int.zero_add] at this
            exact ints hd this
      · rename_i hd
        simp only [Option.some.injEq] at h; subst h
        cases hx; cases hy
        rw [Op.equalIn, Sem.run_bind, run_und hs, Result.andThen_ok, hd]
        simp only [Sem.run_pure, str_beq]
      · rename_i hd
        simp only [Option.some.injEq] at h; subst h
        cases hx; cases hy
        rw [Op.equalIn, Sem.run_bind, run_und hs, Result.andThen_ok, hd]
        rfl
      · rename_i fs la lb hd
        cases hst : P.stoodInHeld t with
        | true => rw [hst] at h; cases h
        | false =>
          rw [hst] at h; simp only [cond_false] at h
          cases hx with
          | agg _ xs hxl =>
            cases hy with
            | agg _ ys hyl =>
              have hu : P.underlying t = some (.struct fs) := by rw [hs.desc, hd]
              have hfs : P.fieldsOf t = fs := by simp [Program.fieldsOf, hu]
              rw [run_equalIn_struct W (m + n) t xs ys (by rw [hfs]; exact hu) hst, hfs]
              exact aeqF_sound (fun h hx hy W => aeqIn_sound n h hx hy m W) hxl hyl _ h W
      · cases h
theorem acheck_sound : ∀ (n : Nat) {t : TypeId} {x : AVal} {xv : Value}, acheck P n t x = true → VR C x xv → ∀ (em : Bool) (m : Nat) (W : World), (Instr.checkKey em (m + n) t xv).run P W = .ok () W
  | 0, _, _, _, h, _, _, _, _ => by cases h
  | n + 1, t, x, xv, h, hx, em, m, W => by
    rw [show m + (n + 1) = (m + n) + 1 from rfl]
    unfold acheck at h
    split at h
    · cases h
    · rename_i i hti
      have hs := tiOf_spec hti
      rw [Instr.checkKey, Sem.run_bind, run_und hs, Result.andThen_ok]
      split at h
      · rename_i hd; rw [hd]; rfl
      · rename_i hd; rw [hd]; rfl
      · rename_i hd; rw [hd]; rfl
      · rename_i fs a hd
        cases hx with
        | agg _ xs hl =>
          rw [hd]
          simp only []
          rw [← Array.forIn_toList]
          clear hd
          generalize fs.toList = L at h
          induction L with
          | nil => simp
          | cons f L ih =>
            simp only [List.all_cons, Bool.and_eq_true] at h
            obtain ⟨h1, h2⟩ := h
            simp only [List.forIn_cons, Sem.run_bind]
            cases hn : (f.name == "_") with
            | true =>
              have hn := eq_of_beq hn
              simp only [hn, ne_eq, not_true_eq_false, if_false, Sem.run_pure, Result.andThen_ok]
              have g := ih h2
              rw [Sem.run_bind] at g
              exact g
            | false =>
              rw [hn, Bool.false_or] at h1
              have hn : f.name ≠ "_" := fun e => by rw [e] at hn; simp at hn
              split at h1
              · rename_i v hv
                obtain ⟨u, u1, u2⟩ := apart_sound hv hl
                have := acheck_sound n h1 u2 em m W
                simp only [if_pos hn, Sem.run_bind, u1, Result.andThen_ok, this, Sem.run_pure]
                have g := ih h2
                rw [Sem.run_bind] at g
                exact g
              · cases h1
      · cases h
theorem afindAsk_sound {kt : TypeId} {k : AVal} {kv : Value} (hk : VR C k kv) : ∀ (es : List (AVal × AVal × Nat)) (es' : List MapEntry) (i : Nat) (r : Option (Nat × AVal)), ERs C es es' → afindAsk P kt k es i = some r →
    ∃ r', (∀ W, (Instr.findAsking kt kv es' i).run P W = .ok r' W) ∧ FR C r r'
  | [], _, i, r, he, h => by
    cases he
    simp only [afindAsk, Option.some.injEq] at h; subst h
    exact ⟨none, fun W => rfl, .none⟩
  | e :: es, _, i, r, he, h => by
    cases he with
    | cons _ e' _ es' h1 ht =>
      simp only [afindAsk] at h
      have ask : ∀ {b : Bool}, aeqIn P 8 kt k e.1 = some b → ∀ W, (Op.equal kt kv e'.key).run P W = .ok b W := fun hq W => aeqIn_sound 8 hq hk h1.key 9992 W
      split at h
      · rename_i hq
        simp only [Option.some.injEq] at h; subst h
        exact ⟨some (i, e'.val), fun W => by rw [Instr.findAsking, Sem.run_bind, ask hq W]; rfl, .some _ _ _ h1.val⟩
      · rename_i hq
        obtain ⟨r', h2, h3⟩ := afindAsk_sound hk es es' (i + 1) r ht h
        exact ⟨r', fun W => by rw [Instr.findAsking, Sem.run_bind, ask hq W]; exact h2 W, h3⟩
      · cases h
theorem afindArr_sound {kt : TypeId} {ck : Value} : ∀ (es : List (AVal × AVal × Nat)) (es' : List MapEntry) (i : Nat) (r : Option (Nat × AVal)), ERs C es es' → afindArr P kt ck es i = some r →
    ∃ r', (∀ W, (Instr.findAsking kt ck es' i).run P W = .ok r' W) ∧ FR C r r'
  | [], _, i, r, he, h => by
    cases he
    simp only [afindArr, Option.some.injEq] at h; subst h
    exact ⟨none, fun W => rfl, .none⟩
  | e :: es, _, i, r, he, h => by
    cases he with
    | cons _ e' _ es' h1 ht =>
      simp only [afindArr] at h
      split at h
      · cases h
      · rename_i ce hce
        have hk := conc_VR 8 hce h1.key
        split at h
        · rename_i hq
          simp only [Option.some.injEq] at h; subst h
          exact ⟨some (i, e'.val), fun W => by rw [Instr.findAsking, Sem.run_bind, hk, pureRun_run hq W]; rfl, .some _ _ _ h1.val⟩
        · rename_i hq
          obtain ⟨r', h2, h3⟩ := afindArr_sound es es' (i + 1) r ht h
          exact ⟨r', fun W => by rw [Instr.findAsking, Sem.run_bind, hk, pureRun_run hq W]; exact h2 W, h3⟩
        · cases h
theorem many_same {d : TypeDesc} (hd : manyD d = true) (x y : Value) : Instr.sameNow d x y = none := by
  cases d <;> first | (cases hd; done) | rfl
theorem key_many {kt : TypeId} {kv : Value} {i : TI} (hs : TIs P kt i) (hm : manyD i.desc = true) (es' : List MapEntry) {r' : Option (Nat × Value)} {W : World} (h2 : (Instr.findAsking kt kv es' 0).run P W = .ok r' W) :
    (Instr.findKey kt kv es').run P W = .ok r' W := by
  rw [Instr.findKey, Sem.run_bind, run_und hs, Result.andThen_ok]
  cases es' with
  | nil =>
    simp only [Instr.findAsking] at h2
    exact h2
  | cons e es' =>
    simp only [Instr.findNow, many_same hm]
    exact h2
theorem check_simple {kt : TypeId} {i : TI} (hs : TIs P kt i) (h : simpleD i.desc = true) (kv : Value) (em : Bool) (W : World) : (Instr.checkKey em 10000 kt kv).run P W = .ok () W := by
  rw [show 10000 = 9999 + 1 from rfl, Instr.checkKey, Sem.run_bind, run_und hs, Result.andThen_ok]
  generalize i.desc = d at h
  cases d <;> first | rfl | cases h
theorem afind_sound {em : Bool} {kt : TypeId} {k : AVal} {kv : Value} {es : List (AVal × AVal × Nat)} {es' : List MapEntry} {r : Option (Nat × AVal)} (h : afind P em kt k es = some r) (hk : VR C k kv) (he : ERs C es es') :
    ∃ r', (∀ W, (Instr.checkKey em 10000 kt kv).run P W = .ok () W) ∧ (∀ W, (Instr.findKey kt kv es').run P W = .ok r' W) ∧ FR C r r' := by
  unfold afind at h
  split at h
  · cases h
  · rename_i i hti
    have hs := tiOf_spec hti
    cases h1 : simpleD i.desc with
    | true =>
      rw [h1] at h; simp only [cond_true] at h
      obtain ⟨r', h2, h3⟩ := afindNow_sound hk es es' 0 r he h
      exact ⟨r', check_simple hs h1 kv em, fun W => by rw [Instr.findKey, Sem.run_bind, run_und hs, Result.andThen_ok, h2]; rfl, h3⟩
    | false =>
      rw [h1] at h; simp only [cond_false] at h
      split at h
      · rename_i fs hd
        cases hc : acheck P 8 kt k with
        | false => rw [hc] at h; cases h
        | true =>
          rw [hc] at h; simp only [cond_true] at h
          obtain ⟨r', h2, h3⟩ := afindAsk_sound hk es es' 0 r he h
          exact ⟨r', fun W => acheck_sound 8 hc hk em 9992 W, fun W => key_many hs (by rw [hd]; rfl) es' (h2 W), h3⟩
      · rename_i n e hd
        split at h
        · cases h
        · rename_i ck hck
          have := conc_VR 8 hck hk
          subst this
          split at h
          · cases h
          · rename_i hch
            obtain ⟨r', h2, h3⟩ := afindArr_sound es es' 0 r he h
            exact ⟨r', fun W => pureRun_run hch W, fun W => key_many hs (by rw [hd]; rfl) es' (h2 W), h3⟩
      · cases h
theorem ERs.length {es : List (AVal × AVal × Nat)} {es' : List MapEntry} (h : ERs C es es') : es.length = es'.length := by
  induction h with
  | nil => rfl
  | cons _ _ _ _ _ _ ih => simp [ih]
theorem ERs.get {es : List (AVal × AVal × Nat)} {es' : List MapEntry} (h : ERs C es es') : ∀ {i : Nat} {e : AVal × AVal × Nat}, es[i]? = some e → ∃ e', es'[i]? = some e' ∧ ER C e e' := by
  induction h with
  | nil => intro i e hi; simp at hi
  | cons x e' l l' h1 ht ih =>
    intro i e hi
    cases i with
    | zero => simp at hi; subst hi; exact ⟨e', rfl, h1⟩
    | succ i => simp at hi; obtain ⟨e2, h2, h3⟩ := ih hi; exact ⟨e2, by simpa using h2, h3⟩
theorem ERs.set {es : List (AVal × AVal × Nat)} {es' : List MapEntry} (h : ERs C es es') : ∀ (i : Nat) {e : AVal × AVal × Nat} {e' : MapEntry}, ER C e e' → ERs C (es.set i e) (es'.set i e') := by
  induction h with
  | nil => intro i e e' _; exact .nil
  | cons x y l l' h1 ht ih =>
    intro i e e' he
    cases i with
    | zero => exact .cons _ _ _ _ he ht
    | succ i => exact .cons _ _ _ _ h1 (ih i he)
theorem ERs.snoc {es : List (AVal × AVal × Nat)} {es' : List MapEntry} (h : ERs C es es') {e : AVal × AVal × Nat} {e' : MapEntry} (he : ER C e e') : ERs C (es ++ [e]) (es' ++ [e']) := by
  induction h with
  | nil => exact .cons _ _ _ _ he .nil
  | cons x y l l' h1 ht ih => exact .cons _ _ _ _ h1 ih
theorem ERs.empty {es : List (AVal × AVal × Nat)} {es' : Array MapEntry} (h : ERs C es es'.toList) : es.isEmpty = es'.isEmpty := by
  have := h.length
  rw [Array.length_toList] at this
  cases es with
  | nil =>
    have : es' = #[] := Array.eq_empty_of_size_eq_zero this.symm
    rw [this]; rfl
  | cons a l =>
    have : es' ≠ #[] := by rintro rfl; simp at this
    simp [this]

section
variable {q : Nat → Bool} {H : AHeap} {W : World}
theorem map_of (h : R P q C H W) {b : Nat} {es : List (AVal × AVal × Nat)} {clock : Nat} (hb : H.get b = some (.map es clock)) {k rc : Nat} (hφ : C.φ b = some (k, rc)) :
    ∃ es' : Array MapEntry, W.heap[k]? = some (.map es' clock) ∧ ERs C es es'.toList := by
  obtain ⟨_, o, ho, es', rfl, h2⟩ := h.blk b _ hb k rc hφ
  exact ⟨es', ho, h2⟩
theorem run_getMap {k : Nat} {es' : Array MapEntry} {clock : Nat} (h : W.heap[k]? = some (.map es' clock)) : (getObj k).run P W = .ok (.map es' clock) W := by
  simp [getObj, Sem.run, h]
def lookTail (kt et : TypeId) (index : Value) (ok : Bool) (es : Array MapEntry) : Sem Value := do
  Instr.checkKey es.isEmpty 10000 kt index
  let (v, ok') ← match ← Instr.findKey kt index es.toList with
    | some (_, v) => pure (v, true)
    | none => pure (← zeroValue et, false)
  pure (if ok then .tuple #[v, .bool ok'] else v)
theorem alookup_sound (h : R P q C H W) {t : TypeId} {x ix r : AVal} {ok : Bool} {xv iv : Value} (hl : alookup P H t x ix ok = some r) (hx : VR C x xv) (hi : VR C ix iv) :
    ∃ v, (Instr.lookup t xv iv ok).run P W = .ok v W ∧ VR C r v := by
  unfold alookup at hl
  split at hl
  · rename_i i hti
    have hs := tiOf_spec hti
    split at hl
    · rename_i kt et hd
      split at hl
      · cases hl
      · rename_i es hes
        have hents : ∃ es' : Array MapEntry, ERs C es es'.toList ∧ (Instr.lookup t xv iv ok).run P W = (lookTail kt et iv ok es').run P W := by
          split at hes
          · cases hx
            simp only [Option.some.injEq] at hes; subst hes
            exact ⟨#[], .nil, by rw [Instr.lookup, Sem.run_bind, run_und hs, Result.andThen_ok, hd]; rfl⟩
          · cases hx with
            | map b k rc hφ =>
              split at hes
              · rename_i es0 clock hb
                simp only [Option.some.injEq] at hes; subst hes
                obtain ⟨es', h1, h2⟩ := map_of h hb hφ
                refine ⟨es', h2, ?_⟩
                rw [Instr.lookup, Sem.run_bind, run_und hs, Result.andThen_ok, hd]
                show ((getObj k >>= _ : Sem Value).run P W) = _
                rw [Sem.run_bind, run_getMap h1, Result.andThen_ok]; rfl
              · cases hes
          · cases hes
        obtain ⟨es', he, hrun⟩ := hents
        split at hl
        · cases hl
        · rename_i j v hf
          obtain ⟨r', h1, h2, h3⟩ := afind_sound hf hi he
          cases h3 with
          | some _ _ v' hv =>
            simp only [Option.some.injEq] at hl; subst hl
            refine ⟨bif ok then .tuple #[v', .bool true] else v', ?_, ?_⟩
            · rw [hrun, lookTail, Sem.run_bind, ← he.empty, h1, Result.andThen_ok, Sem.run_bind, h2, Result.andThen_ok]
              cases ok <;> rfl
            · cases ok
              · exact hv
              · exact .tup _ _ (.cons _ _ _ _ hv (.cons _ _ _ _ (.bool _) .nil))
        · rename_i hf
          obtain ⟨r', h1, h2, h3⟩ := afind_sound hf hi he
          cases h3
          split at hl
          · rename_i ie hie
            have hes2 := tiOf_spec hie
            obtain ⟨z, hz, hzz⟩ := run_zero hes2 W
            simp only [Option.some.injEq] at hl; subst hl
            have hv : VR C ie.zero z := by rw [hzz]; exact absV_VR C 8 z
            refine ⟨bif ok then .tuple #[z, .bool false] else z, ?_, ?_⟩
            · rw [hrun, lookTail, Sem.run_bind, ← he.empty, h1, Result.andThen_ok, Sem.run_bind, h2, Result.andThen_ok]
              simp only []
              rw [Sem.run_bind, hz]
              cases ok <;> rfl
            · cases ok
              · exact hv
              · exact .tup _ _ (.cons _ _ _ _ hv (.cons _ _ _ _ (.bool _) .nil))
          · cases hl
    · cases hl
  · cases hl
theorem alen_sound (h : R P q C H W) {t ty : TypeId} {x r : AVal} {xv : Value} (hl : alen P H t x = some r) (hx : VR C x xv) :
    ∃ v, (Builtin.len_ #[t] ty #[xv]).run P W = .ok v W ∧ VR C r v := by
  unfold alen at hl
  split at hl
  · cases hl
  · rename_i i hti
    have hs := tiOf_spec hti
    have key : ∀ (f : TypeDesc → Sem Value) (d : TypeDesc), i.desc = d → (underlying t >>= f).run P W = (f d).run P W := fun f d hd => by rw [Sem.run_bind, run_und hs, hd]; rfl
    split at hl
    · rename_i k e hd
      simp only [Option.some.injEq] at hl; subst hl
      refine ⟨.int .i64 0, ?_, .int _ _⟩
      show ((underlying t >>= _ : Sem Value).run P W) = _
      rw [key _ _ hd]
      cases hx; rfl
    · rename_i k e b hd
      split at hl
      · rename_i es clock hb
        simp only [Option.some.injEq] at hl; subst hl
        cases hx with
        | map _ k' rc hφ =>
          obtain ⟨es', h1, h2⟩ := map_of h hb hφ
          refine ⟨.int .i64 (Int.ofNat es.length), ?_, .int _ _⟩
          show ((underlying t >>= _ : Sem Value).run P W) = _
          rw [key _ _ hd]
          show ((getObj k' >>= _ : Sem Value).run P W) = _
          rw [Sem.run_bind, run_getMap h1, Result.andThen_ok]
          have : es.length = es'.size := by rw [h2.length]; simp
          rw [this]; rfl
      · cases hl
    · cases hl
/-- The cells of a slice. -/
theorem afirst_cells (h : R P q C H W) {size : Nat} {x : AVal} {xv : Value} {n : Nat} {l : List AVal} (hf : afirst H size x = some (n, l)) (hx : VR C x xv) (hs : noStr x = true) :
    ∃ vs, VRs C l vs ∧ ((xv = .slice none 0 0 ∧ l = []) ∨ ∃ a c, xv = .slice (some a) n c ∧ vs.length = n * size ∧ ∀ j v, vs[j]? = some v → W.cell? (a.add j) = some v) := by
  cases hx with
  | slN own =>
    simp only [afirst, Option.some.injEq, Prod.mk.injEq] at hf
    obtain ⟨rfl, rfl⟩ := hf
    exact ⟨[], .nil, .inl ⟨rfl, rfl⟩⟩
  | sl b o len cap own k rc cap' hφ hlc hcc hown =>
    simp only [afirst] at hf
    split at hf
    · rename_i t row l0 hb
      cases hle : Nat.ble (o + len * size) l0.length with
      | false => rw [hle] at hf; cases hf
      | true =>
        rw [hle] at hf; simp only [cond_true, Option.some.injEq, Prod.mk.injEq] at hf
        obtain ⟨rfl, rfl⟩ := hf
        have hle := Nat.le_of_ble_eq_true hle
        obtain ⟨c, hc, hv, hs, _⟩ := cells_of h hb hφ
        have hvs := (hv.drop o).take (len * size)
        refine ⟨_, hvs, .inr ⟨_, _, rfl, by rw [← hvs.length]; simp; omega, fun j w hj => ?_⟩⟩
        rw [Addr.add_mk]
        unfold World.cell?
        rw [hc]
        rw [List.getElem?_take] at hj
        split at hj
        · rw [List.getElem?_drop, List.getElem?_take] at hj
          split at hj
          · simpa using hj
          · cases hj
        · cases hj
    · cases hf
  | ro n0 l0 k o c hr hc =>
    simp only [afirst] at hf
    cases hle : Nat.beq l0.length (n0 * size) with
    | false => rw [hle] at hf; cases hf
    | true =>
      rw [hle] at hf; simp only [cond_true, Option.some.injEq, Prod.mk.injEq] at hf
      obtain ⟨rfl, rfl⟩ := hf
      have hle := Nat.eq_of_beq_eq_true hle
      obtain ⟨k', o', vs, e, g1, g2, g3⟩ := ld_sound h (a := .rp l0) (v := .pointer (some ⟨k, o, none⟩)) (n := l0.length) (l := l0) (by simp only [ldCells, List.take_length]; rw [Nat.ble_eq_true_of_le (Nat.le_refl _)]; rfl) (.rp _ _ _ hr)
      cases e
      exact ⟨vs, g1, .inr ⟨_, _, rfl, by rw [g2, hle], fun j w hj => by rw [Addr.add_mk]; exact g3 j w hj⟩⟩
  | str s => cases hs
  | _ => simp [afirst] at hf
theorem bytesOf_sound : ∀ (l : List AVal) (s : List UInt8) (vs : List Value), bytesOf l = some s → VRs C l vs → vs = s.map fun b => Value.int .u8 (b.toNat : Int)
  | [], s, vs, h, hv => by
    simp only [bytesOf, Option.some.injEq] at h; subst h
    cases hv; rfl
  | a :: r, s, vs, h, hv => by
    simp only [bytesOf] at h
    split at h
    · rename_i n
      cases hlt : Nat.blt n 256 with
      | false => rw [hlt] at h; cases h
      | true =>
        rw [hlt] at h; simp only [cond_true] at h
        split at h
        · rename_i l hl
          simp only [Option.some.injEq] at h; subst h
          cases hv with
          | cons _ v _ vs' ha ht =>
            cases ha
            have hlt := Nat.blt_eq.mp hlt
            rw [List.map_cons, ← bytesOf_sound r l vs' hl ht]
            congr 2
            rw [UInt8.toNat_ofNat']
            simp; omega
        · cases h
    · cases h
theorem aback_sound (h : R P q C H W) {src dst : TypeId} {x r : AVal} {xv : Value} (hl : aback P H src dst x = some r) (hx : VR C x xv) : ∃ v, (convert src dst xv).run P W = .ok v W ∧ VR C r v := by
  unfold aback at hl
  split at hl
  · rename_i a b hta htb
    have ha := tiOf_spec hta
    have hb := tiOf_spec htb
    split at hl
    · rename_i e hda hdb
      split at hl
      · rename_i i hti
        have hi := tiOf_spec hti
        split at hl
        · rename_i hd
          have hs : P.underlying src = some (.slice e) := by rw [ha.desc, hda]
          have hdt : P.underlying dst = some .string := by rw [hb.desc, hdb]
          have he : P.underlying e = some (.int .u8) := by rw [hi.desc, hd]
          cases hn : noStr x with
          | false => rw [hn] at hl; cases hl
          | true =>
            rw [hn] at hl; simp only [cond_true] at hl
            split at hl
            · rename_i n l hf
              split at hl
              · rename_i s hbs
                simp only [Option.some.injEq] at hl; subst hl
                obtain ⟨vs, h1, h2⟩ := afirst_cells h hf hx hn
                have e1 := bytesOf_sound l s vs hbs h1
                have hstr : VR C (.str s) (.string ⟨s.toArray⟩) := by simpa using VR.str (C := C) ⟨s.toArray⟩
                rcases h2 with ⟨rfl, rfl⟩ | ⟨a', c, rfl, h3, h4⟩
                · simp only [bytesOf, Option.some.injEq] at hbs; subst hbs
                  refine ⟨_, ?_, hstr⟩
                  rw [run_convert_bytes_string W src dst e none 0 0 hs he hdt]
                  rfl
                · have hlen : s.length = n := by rw [e1] at h3; simpa using h3
                  refine ⟨_, ?_, hstr⟩
                  rw [← hlen]
                  exact run_convert_bytes_back W src dst e a' c s hs he hdt fun j hj => h4 j _ (by rw [e1]; simp [hj])
              · cases hl
            · cases hl
        · cases hl
      · cases hl
    · cases hl
  · cases hl
theorem cellsOf_ti {t : TypeId} {i : TI} (h : TIs P t i) : P.cellsOf t = i.size := by
  obtain ⟨inf, z, hi, hsz, _⟩ := h.inf
  simp [Program.cellsOf, hi, hsz]
theorem liesAt_head {e : TypeId} (hc : P.cellsOf e ≠ 0) (count : Nat) (hn : 1 ≤ count) : liesAt P P.depth e count 0 e 1 = true := by
  have hd : P.depth = (2 * (P.types.size + Made.depth) + 1) + 1 := rfl
  rw [hd]
  simp only [liesAt, Bool.or_eq_true]
  left
  rw [hd]
  simp [rowAt, hc, hn, sameLayout]
theorem aunsafe_sound (h : R P q C H W) {src dst : TypeId} {x r : AVal} {xv : Value} (hl : aunsafe P H src dst x = some r) (hx : VR C x xv) : ∃ v, (convert src dst xv).run P W = .ok v W ∧ VR C r v := by
  unfold aunsafe at hl
  split at hl
  · rename_i a b hta htb
    have ha := tiOf_spec hta
    have hb := tiOf_spec htb
    split at hl
    · rename_i t k o hda hdb
      split at hl
      · rename_i i e row l hti hk
        have hi := tiOf_spec hti
        cases hc : (Nat.blt 0 i.size && Nat.blt o l.length) with
        | false => rw [hc] at hl; cases hl
        | true =>
          rw [hc] at hl; simp only [cond_true, Option.some.injEq] at hl; subst hl
          simp only [Bool.and_eq_true] at hc
          have c1 := Nat.blt_eq.mp hc.1
          have c2 := Nat.blt_eq.mp hc.2
          cases hx with
          | ptr _ _ k' rc hφ =>
            obtain ⟨c, hck, _, hcs, _⟩ := cells_of h hk hφ
            obtain ⟨inf, z, hinf, hsz, _⟩ := hi.inf
            exact ⟨_, Lib.run_to_unsafe W ⟨k', o, none⟩ (by rw [ha.desc, hda]) (by rw [hb.desc, hdb]) hinf (by omega) (show W.shape? k' = some (e, c.size) by simp [World.shape?, hck]) (show o < c.size by omega), .ptr _ _ _ _ hφ⟩
      · cases hl
    · rename_i u k hda hdb
      split at hl
      · rename_i i e row l hti hk
        have hi := tiOf_spec hti
        cases hc : (Nat.beq e u && Nat.blt 0 i.size && Nat.ble i.size l.length) with
        | false => rw [hc] at hl; cases hl
        | true =>
          rw [hc] at hl; simp only [cond_true, Option.some.injEq] at hl; subst hl
          simp only [Bool.and_eq_true] at hc
          have c0 := Nat.eq_of_beq_eq_true hc.1.1
          have c1 := Nat.blt_eq.mp hc.1.2
          have c2 := Nat.le_of_ble_eq_true hc.2
          subst c0
          cases hx with
          | ptr _ _ k' rc hφ =>
            obtain ⟨c, hck, _, hcs, _⟩ := cells_of h hk hφ
            obtain ⟨inf, z, hinf, hsz, _⟩ := hi.inf
            have hce := cellsOf_ti hi
            exact ⟨_, Lib.run_from_unsafe W ⟨k', 0, none⟩ (by rw [ha.desc, hda]) (by rw [hb.desc, hdb]) hinf (show W.shape? k' = some (e, c.size) by simp [World.shape?, hck])
              (liesAt_head (by omega) _ (by rw [hce]; exact (Nat.le_div_iff_mul_le c1).2 (by omega))), .ptr _ _ _ _ hφ⟩
      · cases hl
    · cases hl
  · cases hl
theorem lop_sound (h : R P q C H W) {ev : Operand → AVal} {ρ : Operand → Value} {o : Oper} {a : AVal} (hl : lop P H ev o = some a) (he : ∀ x, VR C (ev x) (ρ x)) :
    ∃ v, (execOp ρ o).run P W = .ok (.value v) W ∧ VR C a v := by
  obtain ⟨dst, op, type, pos, after, guard⟩ := o
  cases op with
  | load t x =>
    obtain ⟨v, hv, hr⟩ := aload_sound h hl (he x)
    exact ⟨v, vRun hv, hr⟩
  | lookup t x i ok =>
    obtain ⟨v, hv, hr⟩ := alookup_sound h hl (he x) (he i)
    exact ⟨v, vRun hv, hr⟩
  | convert src dst x =>
    simp only [lop] at hl
    split at hl
    · rename_i w hw
      simp only [Option.some.injEq] at hl; subst hl
      obtain ⟨v, hv, hr⟩ := aback_sound h hw (he x)
      exact ⟨v, vRun hv, hr⟩
    · obtain ⟨v, hv, hr⟩ := aunsafe_sound h hl (he x)
      exact ⟨v, vRun hv, hr⟩
  | call c =>
    obtain ⟨callee, args, ats⟩ := c
    obtain ⟨al⟩ := args
    obtain ⟨tl⟩ := ats
    cases callee with
    | builtin bb =>
      cases bb with
      | len =>
        match al, tl, hl with
        | [x], [t], hl =>
          obtain ⟨v, hv, hr⟩ := alen_sound (ty := type) h hl (he x)
          refine ⟨v, ?_, hr⟩
          show ((do pure (.value (← Builtin.len_ #[t] type (Array.map ρ #[x]))) : Sem Next).run P W) = _
          exact vRun (by simpa using hv)
        | [], _, hl => cases hl
        | [_], [], hl => cases hl
        | [_], _ :: _ :: _, hl => cases hl
        | _ :: _ :: _, _, hl => cases hl
      | _ => cases hl
    | _ => cases hl
  | _ => cases hl
end
end
end Ab
end Go.Proofs.YthhnhbpmpdminaaGreatDoor
