/-
Operations over the abstract memory: each stands for the model's (those that look at no memory). Conditions: none.
-/
import Derived.Test.YthhnhbpmpdminaaGreatDoorAq
import Derived.Lib.UnsafeStr
import Derived.Lib.Builder
import Derived.IntWalk
namespace Go.Proofs.YthhnhbpmpdminaaGreatDoor
namespace Ab
set_option maxRecDepth 4096

def vsetL : List Value → Nat → List Value → List Value
  | l, _, [] => l
  | l, o, v :: r => vsetL (l.set o v) (o + 1) r
theorem vsetL_length : ∀ (r l : List Value) (o : Nat), (vsetL l o r).length = l.length
  | [], _, _ => rfl
  | v :: r, l, o => by rw [vsetL, vsetL_length r]; simp
theorem VRs.setL {C : Ctx} : ∀ (r : List AVal) (r' : List Value) (l : List AVal) (l' : List Value) (o : Nat), VRs C r r' → VRs C l l' → VRs C (asetL l o r) (vsetL l' o r')
  | [], _, l, l', o, hr, hl => by cases hr; exact hl
  | a :: r, _, l, l', o, hr, hl => by
    cases hr with
    | cons _ v _ r' h t => exact VRs.setL r r' _ _ (o + 1) t (hl.set o h)
theorem foldl_set (off : Nat) : ∀ (vs : List Value) (k : Nat) (cells : Array Value),
    ((vs.zipIdx k).foldl (fun cs (x : Value × Nat) => cs.setIfInBounds (off + x.2) x.1) cells).toList = vsetL cells.toList (off + k) vs
  | [], _, _ => rfl
  | v :: vs, k, cells => by
    rw [List.zipIdx_cons, List.foldl_cons, foldl_set off vs (k + 1), vsetL]
    simp [Nat.add_assoc]
theorem fill_cells (off : Nat) (v : Value) (cells : Array Value) :
    (v.cells.zipIdx.foldl (fun cs (x : Value × Nat) => match x with | (c, j) => cs.setIfInBounds (off + j) c) cells).toList = vsetL cells.toList off v.cells.toList := by
  rw [← Array.foldl_toList, Array.toList_zipIdx]
  exact foldl_set off v.cells.toList 0 cells

inductive PRs (C : Ctx) : List (Nat × AVal) → List (Nat × Value) → Prop
  | nil : PRs C [] []
  | cons (i : Nat) (a : AVal) (v : Value) (l : List (Nat × AVal)) (l' : List (Nat × Value)) (h : VR C a v) (t : PRs C l l') : PRs C ((i, a) :: l) ((i, v) :: l')
theorem PRs.of {C : Ctx} {ev : Operand → AVal} {ρ : Operand → Value} (he : ∀ x, VR C (ev x) (ρ x)) (l : List (Nat × Operand)) : PRs C (l.map fun p => (p.1, ev p.2)) (l.map fun p => (p.1, ρ p.2)) := by
  induction l with
  | nil => exact .nil
  | cons p l ih => exact .cons _ _ _ _ _ (he _) ih
theorem VRs.ofMap {C : Ctx} {ev : Operand → AVal} {ρ : Operand → Value} (he : ∀ x, VR C (ev x) (ρ x)) (l : List Operand) : VRs C (l.map ev) (l.map ρ) := by
  induction l with
  | nil => exact .nil
  | cons p l ih => exact .cons _ _ _ _ (he _) ih
theorem VRo.ofMap {C : Ctx} {ev : Operand → AVal} {ρ : Operand → Value} (he : ∀ x, VR C (ev x) (ρ x)) (x : Option Operand) : VRo C (x.map ev) (x.map ρ) := by
  cases x with
  | none => exact .none
  | some y => exact .some _ _ (he y)
theorem fill_sound {C : Ctx} {place : Nat → Option (Nat × Nat)} : ∀ {parts : List (Nat × AVal)} {parts' : List (Nat × Value)} {l l2 : List AVal} {cells : Array Value}, afill place l parts = some l2 →
    VRs C l cells.toList → PRs C parts parts' → ∃ cells', Instr.fill place cells parts' = some cells' ∧ VRs C l2 cells'.toList ∧ cells'.size = cells.size
  | [], _, l, l2, cells, h, hl, hp => by
    cases hp
    simp only [afill, Option.some.injEq] at h
    subst h
    exact ⟨cells, rfl, hl, rfl⟩
  | (i, a) :: parts, _, l, l2, cells, h, hl, hp => by
    cases hp with
    | cons _ _ v _ parts' hv ht =>
      simp only [afill] at h
      cases hpl : place i with
      | none => rw [hpl] at h; cases h
      | some os =>
        obtain ⟨off, size⟩ := os
        rw [hpl] at h
        simp only [] at h
        cases hc : (!isTop a && Nat.beq (cellsA a).length size && Nat.ble (off + (cellsA a).length) l.length) with
        | false => rw [hc] at h; cases h
        | true =>
          rw [hc] at h
          simp only [cond_true] at h
          simp only [Bool.and_eq_true, Bool.not_eq_true'] at hc
          obtain ⟨⟨c1, c2⟩, c3⟩ := hc
          have c2 := Nat.eq_of_beq_eq_true c2
          have c3 := Nat.le_of_ble_eq_true c3
          have hcs := cellsA_VR hv c1
          have e1 := hcs.length
          have e2 := hl.length
          simp at e1 e2
          have hset : VRs C (asetL l off (cellsA a)) (v.cells.zipIdx.foldl (fun cs (x : Value × Nat) => match x with | (c, j) => cs.setIfInBounds (off + j) c) cells).toList := by
            rw [fill_cells]; exact VRs.setL _ _ _ _ _ hcs hl
          have hsz : (v.cells.zipIdx.foldl (fun cs (x : Value × Nat) => match x with | (c, j) => cs.setIfInBounds (off + j) c) cells).size = cells.size := by
            rw [← Array.length_toList, fill_cells, vsetL_length]; simp
          obtain ⟨cells', h1, h2, h3⟩ := fill_sound h hset ht
          refine ⟨cells', ?_, h2, h3.trans hsz⟩
          simp only [Instr.fill, hpl]
          rw [if_neg (by simp only [Bool.or_eq_true, decide_eq_true_eq]; omega)]
          exact h1
theorem concs_VR {C : Ctx} (n : Nat) : ∀ (l : List AVal) (l' r : List Value), VRs C l l' → l.mapM (conc n) = some r → l' = r := by
  intro l
  induction l with
  | nil => intro l' r hl hm; cases hl; simp at hm; exact hm.symm
  | cons a l ih =>
    intro l' r hl hm
    cases hl with
    | cons _ u _ l' ha ht =>
      obtain ⟨b, r', h1, h2, rfl⟩ := mapM_cons_some hm
      rw [conc_VR n h1 ha, ih _ _ ht h2]

section
variable {P : Program} {C : Ctx}
theorem abuild_sound {t : TypeId} {parts : List (Nat × AVal)} {parts' : Array (Nat × Value)} {a : AVal} (h : abuild P t parts = some a) (hp : PRs C parts parts'.toList) :
    ∃ v, (∀ W, (Instr.build t parts').run P W = .ok v W) ∧ VR C a v := by
  unfold abuild at h
  split at h
  · cases h
  · rename_i i hti
    have hs := tiOf_spec hti
    obtain ⟨inf, z, hi, _, _, hz, hzz⟩ := hs.inf
    have hzc : VRs C (cellsA i.zero) z.cells.toList := by rw [hzz]; exact zero_cells C z 7
    split at h
    · rename_i len e hd
      split at h
      · rename_i ie hie
        obtain ⟨infe, ze, hie1, hie2, _⟩ := (tiOf_spec hie).inf
        split at h
        · rename_i l hf
          simp only [Option.some.injEq] at h; subst h
          obtain ⟨cells', h1, h2, _⟩ := fill_sound hf hzc hp
          refine ⟨.agg cells', fun W => run_build W t parts' cells' ?_, .agg _ _ h2⟩
          simp only [Program.built, hi, hs.desc, hd, hz, hie1, hie2]
          exact h1
        · cases h
      · cases h
    · rename_i fields hd
      split at h
      · rename_i places hpl
        split at h
        · rename_i l hf
          simp only [Option.some.injEq] at h; subst h
          obtain ⟨cells', h1, h2, _⟩ := fill_sound hf hzc hp
          refine ⟨.agg cells', fun W => run_build W t parts' cells' ?_, .agg _ _ h2⟩
          simp only [Program.built, hi, hs.desc, hd, hz, hpl]
          exact h1
        · cases h
      · cases h
    · cases h

theorem pureRun_bind {α β : Type} (P : Program) (s : Sem α) (f : α → Sem β) {b : β} (h : pureRun P (s >>= f) = some b) : ∃ a, pureRun P s = some a ∧ pureRun P (f a) = some b := by
  induction s with
  | pure a => exact ⟨a, rfl, h⟩
  | program k ih => exact ih P h
  | _ => simp [Bind.bind, Sem.bind, pureRun] at h
theorem depth_succ : Op.maxDepth = 9999 + 1 := rfl
/-- What a comparison comes to. -/
structure EqRun (P : Program) (t : TypeId) (ox oy : Operand) (xv yv : Value) (b : Bool) : Prop where
  eql : ∀ W, (do eqGuard .eql t ox oy xv yv; binOp .eql t xv yv : Sem Value).run P W = .ok (.bool b) W
  neq : ∀ W, (do eqGuard .neq t ox oy xv yv; binOp .neq t xv yv : Sem Value).run P W = .ok (.bool (!b)) W
theorem EqRun.of {t : TypeId} {ox oy : Operand} {xv yv : Value} {b : Bool} (g1 : ∀ W, (eqGuard .eql t ox oy xv yv).run P W = .ok () W) (g2 : eqGuard .neq t ox oy xv yv = eqGuard .eql t ox oy xv yv)
    (h1 : binOp .eql t xv yv = (do let r ← Op.equal t xv yv; pure (.bool r))) (h2 : binOp .neq t xv yv = (do let r ← Op.equal t xv yv; pure (.bool (!r)))) (h3 : ∀ W, (Op.equal t xv yv).run P W = .ok b W) : EqRun P t ox oy xv yv b :=
  ⟨fun W => by rw [Sem.run_bind, g1, Result.andThen_ok, h1, Sem.run_bind, h3]; rfl, fun W => by rw [Sem.run_bind, g2, g1, Result.andThen_ok, h2, Sem.run_bind, h3]; rfl⟩
theorem equal_und {t : TypeId} {i : TI} (hs : TIs P t i) {d : TypeDesc} (hd : i.desc = d) (xv yv : Value) (W : World) (r : Result Bool) (h : (underlying t).run P W = .ok d W → (Op.equalIn (9999 + 1) t xv yv).run P W = r) : (Op.equal t xv yv).run P W = r :=
  h (by rw [run_und hs, hd])
theorem sameAddr_self (k o o' : Nat) (W : World) : (sameAddr ⟨k, o, none⟩ ⟨k, o', none⟩).run P W = .ok (Nat.beq o o') W := by
  have : ((⟨k, o, none⟩ : Addr) == ⟨k, o', none⟩) = Nat.beq o o' := by
    by_cases e : o = o'
    · subst e; simp
    · have e2 : Nat.beq o o' = false := by
        cases q : Nat.beq o o' with
        | false => rfl
        | true => exact absurd (Nat.eq_of_beq_eq_true q) e
      rw [e2]; simp [e]
  simp [sameAddr, this]
set_option maxHeartbeats 1000000 in
theorem aeq_sound {t : TypeId} {ox oy : Operand} {x y : AVal} {xv yv : Value} {b : Bool} (h : aeq P t ox oy x y = some b) (hx : VR C x xv) (hy : VR C y yv) : EqRun P t ox oy xv yv b := by
  unfold aeq at h
  split at h
  · cases h
  · rename_i i hti
    have hs := tiOf_spec hti
    split at h
    · rename_i p q hd
      simp only [Option.some.injEq] at h; subst h
      cases hx; cases hy
      exact .of (fun _ => rfl) rfl rfl rfl fun W => equal_und hs hd _ _ W _ fun hu => by rw [Op.equalIn, Sem.run_bind, hu]; rfl
    · rename_i e q hd
      simp only [Option.some.injEq] at h; subst h
      cases hx
      cases hy <;> exact .of (fun _ => rfl) rfl rfl rfl fun W => equal_und hs hd _ _ W _ fun hu => by rw [Op.equalIn, Sem.run_bind, hu]; rfl
    · rename_i e q hd
      simp only [Option.some.injEq] at h; subst h
      cases hx; cases hy
      exact .of (fun _ => rfl) rfl rfl rfl fun W => equal_und hs hd _ _ W _ fun hu => by rw [Op.equalIn, Sem.run_bind, hu]; rfl
    · rename_i e q hd
      simp only [Option.some.injEq] at h; subst h
      cases hx; cases hy
      exact .of (fun _ => rfl) rfl rfl rfl fun W => equal_und hs hd _ _ W _ fun hu => by rw [Op.equalIn, Sem.run_bind, hu]; rfl
    · rename_i e q hd
      simp only [Option.some.injEq] at h; subst h
      cases hx; cases hy
      exact .of (fun _ => rfl) rfl rfl rfl fun W => equal_und hs hd _ _ W _ fun hu => by rw [Op.equalIn, Sem.run_bind, hu]; rfl
    · rename_i e b1 o1 b2 o2 hd
      split at h
      · rename_i ie hie
        have hes := tiOf_spec hie
        cases hc : (Nat.beq b1 b2 && !(Nat.beq ie.size 0)) with
        | false => rw [hc] at h; cases h
        | true =>
          rw [hc] at h; simp only [cond_true, Option.some.injEq] at h
          simp only [Bool.and_eq_true, Bool.not_eq_true'] at hc
          have hb := Nat.eq_of_beq_eq_true hc.1
          have hz : ¬ ie.size = 0 := by intro e; rw [e] at hc; exact absurd hc.2 (by decide)
          subst hb
          subst h
          cases hx with
          | ptr _ _ k rc hφ =>
            cases hy with
            | ptr _ _ k' rc' hφ' =>
              rw [hφ] at hφ'
              cases hφ'
              refine .of (fun _ => rfl) rfl rfl rfl fun W => equal_und hs hd _ _ W _ fun hu => ?_
              rw [Op.equalIn, Sem.run_bind, hu]
              show ((sizeOf e >>= fun n => if n ≠ 0 then sameAddr ⟨k, o1, none⟩ ⟨k, o2, none⟩ else _ : Sem Bool).run P W) = _
              rw [Sem.run_bind, run_size hes, Result.andThen_ok, if_pos hz, sameAddr_self]
      · cases h
    · rename_i e hd
      simp only [Option.some.injEq] at h; subst h
      cases hx; cases hy
      exact .of (fun _ => rfl) rfl rfl rfl fun W => equal_und hs hd _ _ W _ fun hu => by rw [Op.equalIn, Sem.run_bind, hu]; rfl
    · rename_i e q hd
      simp only [Option.some.injEq] at h; subst h
      cases hx; cases hy
      exact .of (fun _ => rfl) rfl rfl rfl fun W => equal_und hs hd _ _ W _ fun hu => by rw [Op.equalIn, Sem.run_bind, hu]; rfl
    · rename_i e q hd
      simp only [Option.some.injEq] at h; subst h
      cases hx; cases hy
      exact .of (fun _ => rfl) rfl rfl rfl fun W => equal_und hs hd _ _ W _ fun hu => by rw [Op.equalIn, Sem.run_bind, hu]; rfl
    · rename_i e q hd
      simp only [Option.some.injEq] at h; subst h
      cases hx
      cases hy <;> exact .of (fun _ => rfl) rfl rfl rfl fun W => equal_und hs hd _ _ W _ fun hu => by rw [Op.equalIn, Sem.run_bind, hu]; rfl
    · rename_i e q hd
      simp only [Option.some.injEq] at h; subst h
      cases hx; cases hy
      exact .of (fun _ => rfl) rfl rfl rfl fun W => equal_und hs hd _ _ W _ fun hu => by rw [Op.equalIn, Sem.run_bind, hu]; rfl
    · rename_i e q hd
      simp only [Option.some.injEq] at h; subst h
      cases hx; cases hy
      exact .of (fun _ => rfl) rfl rfl rfl fun W => equal_und hs hd _ _ W _ fun hu => by rw [Op.equalIn, Sem.run_bind, hu]; rfl
    · rename_i e q hd
      simp only [Option.some.injEq] at h; subst h
      cases hx; cases hy
      exact .of (fun _ => rfl) rfl rfl rfl fun W => equal_und hs hd _ _ W _ fun hu => by rw [Op.equalIn, Sem.run_bind, hu]; rfl
    · rename_i e q hd
      simp only [Option.some.injEq] at h; subst h
      cases hx; cases hy
      exact .of (fun _ => rfl) rfl rfl rfl fun W => equal_und hs hd _ _ W _ fun hu => by rw [Op.equalIn, Sem.run_bind, hu]; rfl
    · rename_i e hd
      cases hc : (Region.isConst ox || Region.isConst oy) with
      | false => rw [hc] at h; cases h
      | true =>
        rw [hc] at h; simp only [cond_true, Option.some.injEq] at h; subst h
        cases hx; cases hy
        have hg : ∀ op W, (eqGuard op t ox oy .nilIface .nilIface).run P W = .ok () W := by
          intro op W
          cases ox <;> cases oy <;> simp [Region.isConst] at hc <;> cases op <;> rfl
        refine .of (hg _) ?_ rfl rfl fun W => equal_und hs hd _ _ W _ fun hu => by rw [Op.equalIn, Sem.run_bind, hu]; rfl
        cases ox <;> cases oy <;> simp [Region.isConst] at hc <;> rfl
    · rename_i e q hd
      simp only [Option.some.injEq] at h; subst h
      cases hx; cases hy
      exact .of (fun _ => rfl) rfl rfl rfl fun W => equal_und hs hd _ _ W _ fun hu => by rw [Op.equalIn, Sem.run_bind, hu]; rfl
    · rename_i e q hd
      simp only [Option.some.injEq] at h; subst h
      cases hx; cases hy
      exact .of (fun _ => rfl) rfl rfl rfl fun W => equal_und hs hd _ _ W _ fun hu => by rw [Op.equalIn, Sem.run_bind, hu]; rfl
    · rename_i e la lb hd
      split at h
      · rename_i ca cb hca hcb
        cases hx with
        | agg _ xs hxl =>
          cases hy with
          | agg _ ys hyl =>
            have e1 := conc_VR 8 hca (VR.agg _ _ hxl)
            have e2 := conc_VR 8 hcb (VR.agg _ _ hyl)
            subst e1; subst e2
            obtain ⟨_, h1, h2⟩ := pureRun_bind P _ _ h
            exact .of (pureRun_run h1) rfl rfl rfl (pureRun_run h2)
      · cases h
    · rename_i n e la lb hd
      split at h
      · rename_i ca cb hca hcb
        cases hx with
        | agg _ xs hxl =>
          cases hy with
          | agg _ ys hyl =>
            have e1 := conc_VR 8 hca (VR.agg _ _ hxl)
            have e2 := conc_VR 8 hcb (VR.agg _ _ hyl)
            subst e1; subst e2
            obtain ⟨_, h1, h2⟩ := pureRun_bind P _ _ h
            exact .of (pureRun_run h1) rfl rfl rfl (pureRun_run h2)
      · cases h
    · cases h
theorem lin_bounds {a b lo hi w : Int} (h1 : lo ≤ w) (h2 : w ≤ hi) : aleast a b lo hi ≤ a * w + b ∧ a * w + b ≤ amost a b lo hi := by
  unfold aleast amost
  by_cases h : 0 ≤ a
  · have e1 := Int.mul_le_mul_of_nonneg_left h1 h
    have e2 := Int.mul_le_mul_of_nonneg_left h2 h
    simp only [h, decide_true, cond_true]
    omega
  · have e1 := Int.mul_le_mul_of_nonpos_left (a := a) (by omega) h1
    have e2 := Int.mul_le_mul_of_nonpos_left (a := a) (by omega) h2
    simp only [h, decide_false, cond_false]
    omega
theorem lin_sub (a b c d w : Int) : (a - c) * w + (b - d) = (a * w + b) - (c * w + d) := by rw [Int.sub_mul]; omega
theorem lin_add (a b c d w : Int) : (a + c) * w + (b + d) = (a * w + b) + (c * w + d) := by rw [Int.add_mul]; omega
theorem acmp_sound {op : BinOp} {m M x y : Int} {r : Bool} (h : acmp op m M = some r) (h1 : m ≤ x - y) (h2 : x - y ≤ M) : Op.intCmp op x y = pure (.bool r) := by
  unfold acmp at h
  have key : ∀ {p q : Bool} {u v : Bool}, (bif p then some u else bif q then some v else none) = some r → (p = true ∧ r = u) ∨ (q = true ∧ r = v) := by
    intro p q u v e
    cases p
    · cases q
      · cases e
      · simp only [cond_false, cond_true, Option.some.injEq] at e; exact .inr ⟨rfl, e.symm⟩
    · simp only [cond_true, Option.some.injEq] at e; exact .inl ⟨rfl, e.symm⟩
  split at h
  all_goals first
    | (rcases key h with ⟨e, rfl⟩ | ⟨e, rfl⟩ <;> simp only [Bool.or_eq_true, Bool.and_eq_true, decide_eq_true_eq] at e <;> simp only [Op.intCmp] <;> congr 2 <;> first | (simp; omega) | (rw [decide_eq_true_eq]; omega) | (rw [decide_eq_false_iff_not]; omega))
    | cases h
theorem alin_sound {k : IntKind} {a b lo hi : Int} {v : AVal} (h : alin k a b lo hi = some v) (h1 : lo ≤ C.w) (h2 : C.w ≤ hi) : k.wrap (a * C.w + b) = a * C.w + b ∧ VR C v (.int k (a * C.w + b)) := by
  unfold alin at h
  split at h
  · obtain ⟨e1, e2⟩ := lin_bounds (a := a) (b := b) h1 h2
    cases hc : (decide (-9223372036854775808 ≤ aleast a b lo hi) && decide (amost a b lo hi ≤ 9223372036854775807)) with
    | false => rw [hc] at h; cases h
    | true =>
      rw [hc] at h; simp only [cond_true] at h
      simp only [Bool.and_eq_true, decide_eq_true_eq] at hc
      refine ⟨IntWalk.i64_in _ (by omega), ?_⟩
      by_cases h0 : a = 0
      · simp only [h0, decide_true, cond_true, Option.some.injEq] at h
        subst h
        rw [h0, Int.zero_mul, Int.zero_add]
        exact .int _ _
      · simp only [h0, decide_false, cond_false, Option.some.injEq] at h
        subst h
        exact .lin _ _ _ _ _ h1 h2
  · cases h
theorem alinop_sound {op : BinOp} {t : TypeId} {ox oy : Operand} {k k' : IntKind} {a b c d lo hi : Int} {v : AVal} (h : alinop op k k' a b c d lo hi = some v) (h1 : lo ≤ C.w) (h2 : C.w ≤ hi) :
    ∃ u, (∀ W, (do eqGuard op t ox oy (.int k (a * C.w + b)) (.int k' (c * C.w + d)); binOp op t (.int k (a * C.w + b)) (.int k' (c * C.w + d)) : Sem Value).run P W = .ok u W) ∧ VR C v u := by
  unfold alinop at h
  cases hk : decide (k = k') with
  | false => rw [hk] at h; cases h
  | true =>
    rw [hk] at h; simp only [cond_true] at h
    have hk := of_decide_eq_true hk
    subst hk
    have hg : ∀ x y, eqGuard op t ox oy (.int k x) (.int k y) = pure () := by intro x y; cases op <;> rfl
    have fin : ∀ (x y : Int) (u : Value), binOp op t (.int k x) (.int k y) = pure u → ∀ W, (do eqGuard op t ox oy (.int k x) (.int k y); binOp op t (.int k x) (.int k y) : Sem Value).run P W = .ok u W := by
      intro x y u e W
      rw [hg, e]; rfl
    split at h
    · obtain ⟨e1, e2⟩ := alin_sound h h1 h2
      rw [lin_add] at e1 e2
      exact ⟨_, fin _ _ _ (by show (if k ≠ k then _ else _) = _; rw [if_neg (by simp)]; simp only [Op.intArith, e1]), e2⟩
    · obtain ⟨e1, e2⟩ := alin_sound h h1 h2
      rw [lin_sub] at e1 e2
      exact ⟨_, fin _ _ _ (by show (if k ≠ k then _ else _) = _; rw [if_neg (by simp)]; simp only [Op.intArith, e1]), e2⟩
    · split at h
      · rename_i r hr
        simp only [Option.some.injEq] at h; subst h
        obtain ⟨e1, e2⟩ := lin_bounds (a := a - c) (b := b - d) h1 h2
        rw [lin_sub] at e1 e2
        have e3 := acmp_sound hr e1 e2
        refine ⟨_, fin _ _ _ ?_, .bool r⟩
        rw [← e3]
        cases op <;> first | (simp [acmp] at hr; done) | (show (if k ≠ k then _ else _) = _; rw [if_neg (by simp)])
      · cases h
theorem pure_sem {s : Sem Value} {v : Value} (h : pureRun P s = some v) (n : Nat) : ∃ v', (∀ W, s.run P W = .ok v' W) ∧ VR C (absV n v) v' := ⟨v, pureRun_run h, absV_VR C n v⟩
set_option maxHeartbeats 1000000 in
theorem abinop_sound {op : BinOp} {t : TypeId} {ox oy : Operand} {x y a : AVal} {xv yv : Value} (h : abinop P op t ox oy x y = some a) (hx : VR C x xv) (hy : VR C y yv) :
    ∃ v, (∀ W, (do eqGuard op t ox oy xv yv; binOp op t xv yv : Sem Value).run P W = .ok v W) ∧ VR C a v := by
  unfold abinop at h
  split at h
  · rename_i k p k' q
    split at h
    · rename_i v hv
      simp only [Option.some.injEq] at h; subst h
      cases hx; cases hy
      refine ⟨v, fun W => ?_, absV_VR C 2 v⟩
      have : eqGuard op t ox oy (.int k p) (.int k' q) = pure () := by cases op <;> rfl
      rw [this, Sem.run_bind, Sem.run_pure, Result.andThen_ok]
      exact pureRun_run hv W
    · cases h
  · rename_i p q
    cases hx with
    | str s =>
      cases hy with
      | str u =>
        have hg : eqGuard op t ox oy (.string s) (.string u) = pure () := by cases op <;> rfl
        have hb : op ≠ .shl → op ≠ .shr → binOp op t (.string s) (.string u) = Op.stringOp op s u := by intro h1 h2; cases op <;> first | rfl | exact absurd rfl h1 | exact absurd rfl h2
        have hl : ∀ z : ByteArray, z.data.toList.length = z.size := fun z => by rw [Array.length_toList]; rfl
        have ht : ∀ z : ByteArray, z.toList = z.data.toList := fun z => Lib.toList_data z
        split at h
        · cases hc : Nat.ble (s.data.toList.length + u.data.toList.length) 9223372036854775807 with
          | false => rw [hc] at h; cases h
          | true =>
            rw [hc] at h; simp only [cond_true, Option.some.injEq] at h; subst h
            have hc := Nat.le_of_ble_eq_true hc
            rw [hl, hl] at hc
            refine ⟨.string (s ++ u), fun W => ?_, ?_⟩
            · rw [hg, hb (by simp) (by simp), Sem.run_bind, Sem.run_pure, Result.andThen_ok]
              have : ¬ ((s.size + u.size : Nat) : Int) > IntKind.i64.max := by
                have : IntKind.i64.max = 9223372036854775807 := by decide
                rw [this]; omega
              simp only [Op.stringOp]
              rw [if_neg this]; rfl
            · have : s.data.toList ++ u.data.toList = (s ++ u).data.toList := by simp
              rw [this]; exact .str _
        all_goals first
          | (simp only [Option.some.injEq] at h; subst h
             refine ⟨.bool _, fun W => ?_, .bool _⟩
             rw [hg, hb (by simp) (by simp), Sem.run_bind, Sem.run_pure, Result.andThen_ok]
             simp only [Op.stringOp, ht]
             rfl)
          | cases h
  · cases hx with
    | lin _ _ _ _ _ h1 h2 => cases hy with
      | lin => exact alinop_sound h h1 h2
  · cases hx with
    | lin _ _ _ _ _ h1 h2 => cases hy with
      | int _ n =>
        have := alinop_sound (P := P) (t := t) (ox := ox) (oy := oy) h h1 h2
        rw [Int.zero_mul, Int.zero_add] at this
        exact this
  · cases hy with
    | lin _ _ _ _ _ h1 h2 => cases hx with
      | int _ n =>
        have := alinop_sound (P := P) (t := t) (ox := ox) (oy := oy) h h1 h2
        rw [Int.zero_mul, Int.zero_add] at this
        exact this
  · split at h
    · split at h
      · rename_i b hb
        simp only [Option.some.injEq] at h; subst h
        exact ⟨.bool b, (aeq_sound hb hx hy).eql, .bool _⟩
      · cases h
    · split at h
      · rename_i b hb
        simp only [Option.some.injEq] at h; subst h
        exact ⟨.bool (!b), (aeq_sound hb hx hy).neq, .bool _⟩
      · cases h
    · cases h

theorem alenP_sound {t ty : TypeId} {x r : AVal} {xv : Value} (hl : alenP P t x = some r) (hx : VR C x xv) :
    ∃ v, (∀ W, (Builtin.len_ #[t] ty #[xv]).run P W = .ok v W) ∧ VR C r v := by
  unfold alenP at hl
  split at hl
  · cases hl
  · rename_i i hti
    have hs := tiOf_spec hti
    have key : ∀ (W : World) (f : TypeDesc → Sem Value) (d : TypeDesc), i.desc = d → (underlying t >>= f).run P W = (f d).run P W := fun W f d hd => by rw [Sem.run_bind, run_und hs, hd]; rfl
    split at hl
    · rename_i s hd
      cases hx with
      | str s =>
        simp only [Option.some.injEq] at hl; subst hl
        refine ⟨.int .i64 (Int.ofNat s.data.toList.length), fun W => ?_, .int _ _⟩
        show ((underlying t >>= _ : Sem Value).run P W) = _
        rw [key W _ _ hd]
        have : s.data.toList.length = s.size := by rw [Array.length_toList]; rfl
        rw [this]; rfl
    · rename_i e a n c o hd
      simp only [Option.some.injEq] at hl; subst hl
      refine ⟨.int .i64 (Int.ofNat n), fun W => ?_, .int _ _⟩
      show ((underlying t >>= _ : Sem Value).run P W) = _
      rw [key W _ _ hd]
      cases hx <;> rfl
    · rename_i e n c hd
      simp only [Option.some.injEq] at hl; subst hl
      refine ⟨.int .i64 (Int.ofNat n), fun W => ?_, .int _ _⟩
      show ((underlying t >>= _ : Sem Value).run P W) = _
      rw [key W _ _ hd]
      cases hx; rfl
    · rename_i e hd
      simp only [Option.some.injEq] at hl; subst hl
      refine ⟨.int .i64 (Int.ofNat 0), fun W => ?_, .int _ _⟩
      show ((underlying t >>= _ : Sem Value).run P W) = _
      rw [key W _ _ hd]
      cases hx; rfl
    · rename_i n e hd
      simp only [Option.some.injEq] at hl; subst hl
      refine ⟨.int .i64 (Int.ofNat n), fun W => ?_, .int _ _⟩
      show ((underlying t >>= _ : Sem Value).run P W) = _
      rw [key W _ _ hd]; rfl
    · cases hl
theorem vRun {s : Sem Value} {v : Value} {W W' : World} (h : s.run P W = .ok v W') : (do pure (.value (← s)) : Sem Next).run P W = .ok (.value v) W' := by
  rw [Sem.run_bind, h]; rfl
set_option maxHeartbeats 2000000 in
theorem popP_sound {ev : Operand → AVal} {ρ : Operand → Value} {o : Oper} {a : AVal} (h : popP P ev o = some a) (he : ∀ x, VR C (ev x) (ρ x)) :
    ∃ v, (∀ W, (execOp ρ o).run P W = .ok (.value v) W) ∧ VR C a v := by
  obtain ⟨dst, op, type, pos, after, guard⟩ := o
  cases op with
  | move x => simp only [popP, Option.some.injEq] at h; subst h; exact ⟨ρ x, fun _ => rfl, he x⟩
  | assign x => simp only [popP, Option.some.injEq] at h; subst h; exact ⟨ρ x, fun _ => rfl, he x⟩
  | pick c x y =>
    simp only [popP] at h
    have hc := he c
    split at h
    · rename_i t ht
      rw [ht] at hc
      simp only [Option.some.injEq] at h; subst h
      generalize hv : ρ c = cv at hc
      cases hc
      refine ⟨bif t then ρ x else ρ y, fun W => ?_, ?_⟩
      · simp only [execOp, hv]
        cases t <;> rfl
      · cases t
        · exact he y
        · exact he x
    · cases h
  | build t parts =>
    simp only [popP] at h
    obtain ⟨v, hv, hr⟩ := abuild_sound (parts' := parts.map fun (i, x) => (i, ρ x)) h (by rw [Array.toList_map]; exact PRs.of he _)
    exact ⟨v, fun W => vRun (hv W), hr⟩
  | nilCheck x =>
    simp only [popP] at h
    have hc := he x
    split at h
    all_goals first
      | (rename_i hx; rw [hx] at hc; simp only [Option.some.injEq] at h; subst h
         generalize hv : ρ x = cv at hc
         cases hc <;> exact ⟨_, fun W => by simp only [execOp, hv]; rfl, by constructor <;> assumption⟩)
      | cases h
  | binOp op t x y yt =>
    simp only [popP] at h
    obtain ⟨v, hv, hr⟩ := abinop_sound h (he x) (he y)
    exact ⟨v, fun W => vRun (hv W), hr⟩
  | unOp op t x =>
    simp only [popP] at h
    split at h
    · rename_i cv hcv
      split at h
      · rename_i r hr
        simp only [Option.some.injEq] at h; subst h
        have := conc_VR 2 hcv (he x)
        exact ⟨r, fun W => vRun (by rw [this]; exact pureRun_run hr W), absV_VR C 2 r⟩
      · cases h
    · cases h
  | convert src dst x =>
    simp only [popP] at h
    split at h
    · rename_i cv hcv
      split at h
      · rename_i r hr
        simp only [Option.some.injEq] at h; subst h
        have := conc_VR 2 hcv (he x)
        exact ⟨r, fun W => vRun (by rw [this]; exact pureRun_run hr W), absV_VR C 2 r⟩
      · cases h
    · cases h
  | makeInterface t x =>
    simp only [popP] at h
    split at h
    · rename_i i hti
      have hs := tiOf_spec hti
      split at h
      · cases h
      · rename_i hd
        simp only [Option.some.injEq] at h; subst h
        refine ⟨.iface t (ρ x), fun W => vRun ?_, .iface _ _ _ (he x)⟩
        rw [Instr.makeInterface, Sem.run_bind, run_und hs, Result.andThen_ok]
        generalize i.desc = d at hd
        cases d <;> first | rfl | exact absurd rfl (hd _)
    · cases h
  | makeFunc fn first cap =>
    simp only [popP] at h
    cases fn with
    | func f =>
      simp only [Option.some.injEq] at h; subst h
      exact ⟨.func (.func f) (first.map ρ) (cap.map ρ), fun W => rfl, .fn _ _ _ _ _ (by rw [Array.toList_map]; exact VRs.ofMap he _) (by rw [Array.toList_map]; exact VRs.ofMap he _)⟩
    | _ => cases h
  | slice t x lo hi mx =>
    simp only [popP] at h
    obtain ⟨v, hv, hr⟩ := aslice_sound h (he x) (VRo.ofMap he lo) (VRo.ofMap he hi) (VRo.ofMap he mx)
    exact ⟨v, fun W => vRun (hv W), hr⟩
  | fieldAddr s x f =>
    simp only [popP] at h
    obtain ⟨v, hv, hr⟩ := afieldAddr_sound h (he x)
    exact ⟨v, fun W => vRun (hv W), hr⟩
  | field s x f =>
    simp only [popP] at h
    obtain ⟨v, hv, hr⟩ := afield_sound h (he x)
    exact ⟨v, fun W => vRun (hv W), hr⟩
  | indexAddr t x i =>
    simp only [popP] at h
    obtain ⟨v, hv, hr⟩ := aindexAddr_sound h (he x) (he i)
    exact ⟨v, fun W => vRun (hv W), hr⟩
  | index t x i =>
    simp only [popP] at h
    obtain ⟨v, hv, hr⟩ := aindex_sound h (he x) (he i)
    exact ⟨v, fun W => vRun (hv W), hr⟩
  | extract x i =>
    simp only [popP] at h
    have hc := he x
    split at h
    · rename_i l hx
      rw [hx] at hc
      generalize hv : ρ x = cv at hc
      cases hc with
      | tup _ l' hl =>
        obtain ⟨v, h1, h2⟩ := hl.get h
        refine ⟨v, fun W => vRun ?_, h2⟩
        have : l'[i]? = some v := by simpa using h1
        simp only [hv, Instr.extract, this]
        rfl
    · cases h
  | call c =>
    obtain ⟨callee, args, ats⟩ := c
    cases callee with
    | builtin b =>
      cases b with
      | len =>
        obtain ⟨al⟩ := args
        obtain ⟨tl⟩ := ats
        match al, tl, h with
        | [x], [t], h =>
          obtain ⟨v, hv, hr⟩ := alenP_sound (ty := type) h (he x)
          refine ⟨v, fun W => ?_, hr⟩
          show ((do pure (.value (← Builtin.len_ #[t] type (Array.map ρ #[x]))) : Sem Next).run P W) = _
          exact vRun (by simpa using hv W)
        | [], _, h => cases h
        | [_], [], h => cases h
        | [_], _ :: _ :: _, h => cases h
        | _ :: _ :: _, _, h => cases h
      | unsafeSliceData =>
        obtain ⟨al⟩ := args
        match al, h with
        | [x], h =>
          have hx := he x
          simp only [popP] at h
          show ∃ v, (∀ W, (do pure (.value (← Builtin.unsafeSliceData_ ats type (Array.map ρ #[x]))) : Sem Next).run P W = .ok (.value v) W) ∧ VR C a v
          generalize hv : ρ x = xv at hx
          have e : Array.map ρ #[x] = #[xv] := by simp [hv]
          rw [e]
          split at h
          · rename_i he
            rw [he] at hx
            simp only [Option.some.injEq] at h; subst h
            cases hx
            exact ⟨_, fun W => vRun (Lib.run_unsafeSliceData_nil W _ _ _ _), .ptrN⟩
          · rename_i c _ he
            rw [he] at hx
            cases hc : Nat.beq c 0 with
            | true => rw [hc] at h; cases h
            | false =>
              rw [hc] at h
              simp only [cond_false, Option.some.injEq] at h; subst h
              have hc0 : c ≠ 0 := fun e => by subst e; cases hc
              cases hx with
              | sl b o len cap own k rc cap' hφ hlc hcc hown =>
                exact ⟨_, fun W => vRun (Lib.run_unsafeSliceData_row W _ _ _ _ _ (by omega)), .ptr _ _ _ _ hφ⟩
          · cases h
        | [], h => cases h
        | _ :: _ :: _, h => cases h
      | min =>
        simp only [popP] at h
        split at h
        · rename_i l hl
          split at h
          · rename_i r hr
            simp only [Option.some.injEq] at h; subst h
            have := concs_VR 2 _ _ _ (VRs.ofMap he args.toList) hl
            have e : args.map ρ = l.toArray := by apply Array.ext'; rw [Array.toList_map, this]
            refine ⟨r, fun W => ?_, absV_VR C 2 r⟩
            show ((do pure (.value (← Builtin.min_ ats type (args.map ρ))) : Sem Next).run P W) = _
            exact vRun (by rw [e]; exact pureRun_run hr W)
          · cases h
        · cases h
      | max =>
        simp only [popP] at h
        split at h
        · rename_i l hl
          split at h
          · rename_i r hr
            simp only [Option.some.injEq] at h; subst h
            have := concs_VR 2 _ _ _ (VRs.ofMap he args.toList) hl
            have e : args.map ρ = l.toArray := by apply Array.ext'; rw [Array.toList_map, this]
            refine ⟨r, fun W => ?_, absV_VR C 2 r⟩
            show ((do pure (.value (← Builtin.max_ ats type (args.map ρ))) : Sem Next).run P W) = _
            exact vRun (by rw [e]; exact pureRun_run hr W)
          · cases h
        · cases h
      | _ => cases h
    | _ => cases h
  | _ => cases h
end
end Ab
end Go.Proofs.YthhnhbpmpdminaaGreatDoor
