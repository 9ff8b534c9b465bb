/-
A region that draws its order, over the abstract memory: one order for all. Conditions: the calls are sound; what reads would read the same wherever it may come up.
-/
import Derived.Test.YthhnhbpmpdminaaGreatDoorAd
namespace Go.Proofs.YthhnhbpmpdminaaGreatDoor
namespace Ab
set_option maxRecDepth 4096

theorem any_bits (acc : Array Nat) (i : Nat) : ∀ (l : List Edge) (s : Nat), (l.foldl (fun s e => if Region.binds .any e then s ||| 2 ^ e.on ||| acc.getD e.on 0 else s) s).testBit i = true →
    s.testBit i = true ∨ ∃ e ∈ l, Region.binds .any e = true ∧ (i = e.on ∨ (acc.getD e.on 0).testBit i = true)
  | [], s, h => .inl h
  | e :: l, s, h => by
    rw [List.foldl_cons] at h
    rcases any_bits acc i l _ h with h1 | ⟨e', h1, h2⟩
    · by_cases hb : Region.binds .any e = true
      · rw [if_pos hb, Nat.testBit_or, Nat.testBit_or] at h1
        simp only [Bool.or_eq_true] at h1
        rcases h1 with (h1 | h1) | h1
        · exact .inl h1
        · exact .inr ⟨e, List.mem_cons_self, hb, .inl (by rw [Nat.testBit_two_pow] at h1; simpa using (of_decide_eq_true h1).symm)⟩
        · exact .inr ⟨e, List.mem_cons_self, hb, .inr h1⟩
      · rw [if_neg hb] at h1; exact .inl h1
    · exact .inr ⟨e', List.mem_cons_of_mem _ h1, h2⟩
theorem push_self (acc : Array Nat) (v : Nat) : (acc.push v).getD acc.size 0 = v := by
  rw [Array.getD_eq_getD_getElem?, Array.getElem?_push_size]; rfl
theorem push_else (acc : Array Nat) (v k : Nat) (h : k ≠ acc.size) : (acc.push v).getD k 0 = acc.getD k 0 := by
  rw [Array.getD_eq_getD_getElem?, Array.getD_eq_getD_getElem?, Array.getElem?_push, if_neg h]
def befG (acc : Array Nat) (o : Oper) : Array Nat := acc.push (o.after.foldl (fun s e => if Region.binds .any e then s ||| 2 ^ e.on ||| acc.getD e.on 0 else s) 0)
theorem befG_fold : ∀ (l : List Oper) (acc : Array Nat), (l.foldl befG acc).size = acc.size + l.length ∧ ∀ k, k < acc.size → (l.foldl befG acc).getD k 0 = acc.getD k 0
  | [], acc => ⟨rfl, fun _ _ => rfl⟩
  | o :: l, acc => by
    obtain ⟨h1, h2⟩ := befG_fold l (befG acc o)
    have hs : (befG acc o).size = acc.size + 1 := by simp [befG]
    refine ⟨by rw [List.foldl_cons, h1, hs, List.length_cons]; omega, fun k hk => ?_⟩
    rw [List.foldl_cons, h2 k (by omega)]
    exact push_else _ _ _ (by omega)
theorem before_eq (ops : Array Oper) : Region.before ops = ops.toList.foldl befG #[] := by
  unfold Region.before; rw [← Array.foldl_toList]; rfl
theorem fold_split (l : List Oper) (j : Nat) (o : Oper) (h : l[j]? = some o) : l.foldl befG #[] = (l.drop (j + 1)).foldl befG (befG ((l.take j).foldl befG #[]) o) := by
  have hj := (List.getElem?_eq_some_iff.1 h).1
  have e : l = l.take j ++ o :: l.drop (j + 1) := by
    have h1 := List.take_append_drop j l
    rw [List.drop_eq_getElem_cons hj, (List.getElem?_eq_some_iff.1 h).2] at h1
    exact h1.symm
  conv => lhs; rw [e]
  rw [List.foldl_append, List.foldl_cons]
theorem before_bit {ops : Array Oper} {j i : Nat} {o : Oper} (ho : ops[j]? = some o) (h : ((Region.before ops).getD j 0).testBit i = true) :
    ∃ e ∈ o.after.toList, Region.binds .any e = true ∧ (i = e.on ∨ ((Region.before ops).getD e.on 0).testBit i = true) := by
  rw [before_eq] at h ⊢
  have ho' : ops.toList[j]? = some o := by simpa using ho
  rw [fold_split _ j o ho'] at h ⊢
  have hj := (List.getElem?_eq_some_iff.1 ho').1
  have hA := (befG_fold (ops.toList.take j) #[]).1
  have hsz : ((ops.toList.take j).foldl befG #[]).size = j := by
    rw [hA, List.length_take, Nat.min_eq_left (Nat.le_of_lt hj)]; simp
  generalize (ops.toList.take j).foldl befG #[] = acc at *
  obtain ⟨_, hkeep⟩ := befG_fold (ops.toList.drop (j + 1)) (befG acc o)
  have hs2 : (befG acc o).size = j + 1 := by simp [befG, hsz]
  rw [hkeep j (by omega)] at h
  have hself : (befG acc o).getD j 0 = o.after.foldl (fun s e => if Region.binds .any e then s ||| 2 ^ e.on ||| acc.getD e.on 0 else s) 0 := by
    rw [← hsz]; exact push_self _ _
  rw [hself, ← Array.foldl_toList] at h
  rcases any_bits acc i _ 0 h with h1 | ⟨e, h1, h2, h3⟩
  · simp at h1
  · refine ⟨e, h1, h2, h3.imp id fun h4 => ?_⟩
    by_cases hlt : e.on < j
    · rw [hkeep e.on (by omega), befG, push_else _ _ _ (by omega)]
      exact h4
    · exfalso
      rw [Array.getD_eq_getD_getElem?, Array.getElem?_eq_none (by omega)] at h4
      simp at h4

/-- What has come up brings with it what it waits for. -/
def Closed (ops : Array Oper) (L : Nat → Bool) : Prop := ∀ k o, ops[k]? = some o → L k = true → ∀ i, ((Region.before ops).getD k 0).testBit i = true → L i = true
def isReady (ops : Array Oper) (L : Nat → Bool) (i : Nat) (o : Oper) : Prop := ops[i]? = some o ∧ L i = false ∧ ∀ e ∈ o.after.toList, Region.binds .any e = true → L e.on = true
theorem ready_anc {ops : Array Oper} {L : Nat → Bool} (hc : Closed ops L) (hin : ∀ k, L k = true → k < ops.size) {i : Nat} {o : Oper} (hr : isReady ops L i o) {j : Nat} (h : ((Region.before ops).getD i 0).testBit j = true) : L j = true := by
  obtain ⟨e, h1, h2, h3⟩ := before_bit hr.1 h
  have he := hr.2.2 e h1 h2
  rcases h3 with rfl | h3
  · exact he
  · have hlt := hin _ he
    exact hc e.on _ (Array.getElem?_eq_getElem hlt) he j h3
def setL (L : Nat → Bool) (i : Nat) : Nat → Bool := fun k => if k = i then true else L k
theorem Closed.step {ops : Array Oper} {L : Nat → Bool} (hc : Closed ops L) (hin : ∀ k, L k = true → k < ops.size) {i : Nat} {o : Oper} (hr : isReady ops L i o) : Closed ops (setL L i) := by
  intro k ok hk hL j hj
  unfold setL at hL ⊢
  by_cases e : k = i
  · subst e
    have := ready_anc hc hin hr hj
    split
    · rfl
    · exact this
  · rw [if_neg e] at hL
    split
    · rfl
    · exact hc k ok hk hL j hj

def dstA (ops : Array Oper) (m : Nat) : Option Tmp := (ops[m]?).bind (·.dst)
/-- The last one that wrote a temporary. -/
def lw (ops : Array Oper) (L : Nat → Bool) : Nat → Tmp → Option Nat
  | 0, _ => none
  | m + 1, t => if L m = true ∧ dstA ops m = some t then some m else lw ops L m t
section
variable {P : Program} {ops : Array Oper} {L : Nat → Bool}
theorem lw_ready (hclash : ∀ x y ox oy, x < y → ops[x]? = some ox → ops[y]? = some oy → clash P ops ox oy = true → ((Region.before ops).getD y 0).testBit x = true)
    (hc : Closed ops L) (hin : ∀ k, L k = true → k < ops.size) {i : Nat} {o : Oper} (hr : isReady ops L i o) {t : Tmp} (ht : (namesA ops o).contains t = true) :
    ∀ m, lw ops L m t = lw ops (fun _ => true) (min m i) t
  | 0 => by rw [Nat.zero_min]; rfl
  | m + 1 => by
    have ih := lw_ready hclash hc hin hr ht m
    by_cases hd : dstA ops m = some t
    · have hom : ∃ om, ops[m]? = some om ∧ om.dst = some t := by
        unfold dstA at hd
        cases h : ops[m]? with
        | none => rw [h] at hd; cases hd
        | some om => rw [h] at hd; exact ⟨om, rfl, hd⟩
      obtain ⟨om, hom, hdm⟩ := hom
      rcases Nat.lt_trichotomy m i with hlt | heq | hgt
      · have hL : L m = true := ready_anc hc hin hr (hclash m i om o hlt hom hr.1 (by unfold clash; rw [hdm]; simp only [ht, Bool.true_or]))
        rw [show min (m + 1) i = m + 1 by omega, lw, if_pos ⟨hL, hd⟩, lw, if_pos ⟨rfl, hd⟩]
      · subst heq
        rw [show min (m + 1) m = min m m by omega, ← ih, lw, if_neg]
        rintro ⟨h1, _⟩
        rw [hr.2.1] at h1; cases h1
      · rw [show min (m + 1) i = min m i by omega, ← ih, lw, if_neg]
        rintro ⟨h1, _⟩
        have hb := hclash i m o om hgt hr.1 hom (by unfold clash; rw [hdm]; simp only [ht, Bool.true_or, Bool.or_true])
        have := hc m om hom h1 i hb
        rw [hr.2.1] at this; cases this
    · rw [lw, if_neg (fun q => hd q.2), ih]
      rcases Nat.lt_or_ge m i with hlt | hge
      · rw [show min m i = m by omega, show min (m + 1) i = m + 1 by omega, lw, if_neg (fun q => hd q.2)]
      · rw [show min m i = i by omega, show min (m + 1) i = i by omega]
theorem lw_other {i : Nat} {t : Tmp} (h : dstA ops i ≠ some t) : ∀ m, lw ops (setL L i) m t = lw ops L m t
  | 0 => rfl
  | m + 1 => by
    rw [lw, lw, lw_other h m]
    by_cases e : m = i
    · subst e
      rw [if_neg (fun q => h q.2), if_neg (fun q => h q.2)]
    · have : setL L i m = L m := by unfold setL; rw [if_neg e]
      rw [this]
theorem lw_own (hclash : ∀ x y ox oy, x < y → ops[x]? = some ox → ops[y]? = some oy → clash P ops ox oy = true → ((Region.before ops).getD y 0).testBit x = true)
    (hc : Closed ops L) {i : Nat} {o : Oper} (hr : isReady ops L i o) {d : Tmp} (hd : o.dst = some d) : ∀ m, i < m → lw ops (setL L i) m d = some i
  | 0, h => by omega
  | m + 1, h => by
    have hdi : dstA ops i = some d := by unfold dstA; rw [hr.1]; exact hd
    by_cases e : m = i
    · subst e
      rw [lw, if_pos ⟨by unfold setL; rw [if_pos rfl], hdi⟩]
    · rw [lw, if_neg, lw_own hclash hc hr hd m (by omega)]
      rintro ⟨h1, h2⟩
      have h1' : L m = true := by unfold setL at h1; rwa [if_neg e] at h1
      unfold dstA at h2
      cases hom : ops[m]? with
      | none => rw [hom] at h2; cases h2
      | some om =>
        rw [hom] at h2
        have h2 : om.dst = some d := h2
        have hb := hclash i m o om (by omega) hr.1 hom (by unfold clash namesA; rw [hd, h2]; simp)
        have := hc m om hom h1' i hb
        rw [hr.2.1] at this; cases this
end

/-- One run of the operations in their order, written out. -/
structure Trace (S : St) (call : FuncId → List AVal → AHeap → Option (AVal × AHeap)) (nt : Nat) (ops : Array Oper) (r : List Oper) (ds : Ds) (envs : Nat → PT AVal) (heaps : Nat → AHeap) (vals : Nat → AVal) : Prop where
  step : ∀ i o, r[i]? = some o → aput nt (envs i) o.dst (vals i) = some (envs (i + 1)) ∧
    ((wantA ops (envs i) o = some false ∧ vals i = .tup [] ∧ heaps (i + 1) = heaps i) ∨ (wantA ops (envs i) o = some true ∧ stepA S call (evN S (envs i) o) ds (heaps i) o = some (vals i, ds, heaps (i + 1))))
theorem stepA_ds {S : St} {call : FuncId → List AVal → AHeap → Option (AVal × AHeap)} {ev : Operand → AVal} {ds ds' : Ds} {H H' : AHeap} {o : Oper} {v : AVal} (h : stepA S call ev ds H o = some (v, ds', H')) (hd : defA o = false) : ds' = ds := by
  unfold stepA at h
  have hnd : ∀ c, o.op ≠ .defer c := fun c e => by unfold defA at hd; rw [e] at hd; cases hd
  (repeat' split at h) <;> first
    | (exact absurd ‹o.op = .defer _› (hnd _))
    | (simp only [Option.some.injEq, Prod.mk.injEq] at h; exact h.2.1.symm)
    | cases h
theorem trace_of {S : St} {call : FuncId → List AVal → AHeap → Option (AVal × AHeap)} {nt : Nat} {ops : Array Oper} {ds : Ds} : ∀ (r : List Oper) (env : PT AVal) (H : AHeap) (env' : PT AVal) (ds' : Ds) (H' : AHeap), (∀ o ∈ r, defA o = false) →
    runSeq S call nt ops true r env ds H = some (env', ds', H') → ∃ envs heaps vals, Trace S call nt ops r ds envs heaps vals ∧ envs 0 = env ∧ heaps 0 = H ∧ envs r.length = env' ∧ heaps r.length = H' ∧ ds' = ds
  | [], env, H, env', ds', H', _, h => by
    simp only [runSeq, Option.some.injEq, Prod.mk.injEq] at h
    obtain ⟨rfl, rfl, rfl⟩ := h
    exact ⟨fun _ => env, fun _ => H, fun _ => .top, ⟨fun i o ho => by simp at ho⟩, rfl, rfl, rfl, rfl, rfl⟩
  | o :: r, env, H, env', ds', H', hdf, h => by
    simp only [runSeq] at h
    have mk : ∀ (env1 : PT AVal) (H1 : AHeap) (v : AVal), runSeq S call nt ops true r env1 ds H1 = some (env', ds', H') → aput nt env o.dst v = some env1 →
        ((wantA ops env o = some false ∧ v = .tup [] ∧ H1 = H) ∨ (wantA ops env o = some true ∧ stepA S call (evN S env o) ds H o = some (v, ds, H1))) →
        ∃ envs heaps vals, Trace S call nt ops (o :: r) ds envs heaps vals ∧ envs 0 = env ∧ heaps 0 = H ∧ envs (o :: r).length = env' ∧ heaps (o :: r).length = H' ∧ ds' = ds := by
      intro env1 H1 v hrun hp hs
      obtain ⟨es, hs', vs, ht, h1, h2, h3, h4, h5⟩ := trace_of r env1 H1 env' ds' H' (fun x hx => hdf x (List.mem_cons_of_mem _ hx)) hrun
      refine ⟨fun | 0 => env | k + 1 => es k, fun | 0 => H | k + 1 => hs' k, fun | 0 => v | k + 1 => vs k, ⟨fun i x hx => ?_⟩, rfl, rfl, h3, h4, h5⟩
      cases i with
      | zero =>
        simp at hx; subst hx
        show aput nt env o.dst v = some (es 0) ∧ ((wantA ops env o = some false ∧ v = .tup [] ∧ hs' 0 = H) ∨ (wantA ops env o = some true ∧ stepA S call (evN S env o) ds H o = some (v, ds, hs' 0)))
        rw [h1, h2]
        exact ⟨hp, hs⟩
      | succ i => exact ht.step i x (by simpa using hx)
    split at h
    · cases h
    · rename_i hw
      split at h
      · rename_i env1 hp
        exact mk env1 H (.tup []) h hp (.inl ⟨hw, rfl, rfl⟩)
      · cases h
    · rename_i hw
      split at h
      · cases h
      · rename_i v ds1 H1 hst
        have hds := stepA_ds hst (hdf o List.mem_cons_self)
        subst hds
        split at h
        · rename_i env1 hp
          exact mk env1 H1 v h hp (.inr ⟨hw, hst⟩)
        · cases h
theorem beqL_eq {f : AVal → AVal → Bool} (hf : ∀ a b, f a b = true → a = b) : ∀ (l m : List AVal), beqV.beqL f l m = true → l = m
  | [], [], _ => rfl
  | a :: l, b :: m, h => by
    simp only [beqV.beqL, Bool.and_eq_true] at h
    rw [hf a b h.1, beqL_eq hf l m h.2]
  | [], _ :: _, h => by cases h
  | _ :: _, [], h => by cases h
theorem beqV_eq : ∀ (n : Nat) (a b : AVal), beqV n a b = true → a = b
  | 0, _, _, h => by cases h
  | n + 1, a, b, h => by
    have hl := beqL_eq (beqV_eq n)
    unfold beqV at h
    split at h
    · rfl
    · rfl
    · rw [eq_of_beq h]
    · simp only [Bool.and_eq_true] at h; rw [eq_of_beq h.1, eq_of_beq h.2]
    · rw [eq_of_beq h]
    · rw [eq_of_beq h]
    · rw [hl _ _ h]
    · simp only [Bool.and_eq_true] at h; rw [eq_of_beq h.1.1.1, eq_of_beq h.1.1.2, eq_of_beq h.1.2, eq_of_beq h.2]
    · simp only [Bool.and_eq_true] at h; rw [eq_of_beq h.1, hl _ _ h.2]
    · rw [eq_of_beq h]
    · simp only [Bool.and_eq_true] at h; rw [eq_of_beq h.1.1, hl _ _ h.1.2, hl _ _ h.2]
    · rfl
    · simp only [Bool.and_eq_true] at h; rw [eq_of_beq h.1, beqV_eq n _ _ h.2]
    · rfl
    · rw [hl _ _ h]
    · rw [hl _ _ h]
    · simp only [Bool.and_eq_true] at h; rw [eq_of_beq h.1.1.1.1, eq_of_beq h.1.1.1.2, eq_of_beq h.1.1.2, eq_of_beq h.1.2, eq_of_beq h.2]
    · rw [eq_of_beq h]
    · cases h
theorem trace_of_tr {S : St} {call : FuncId → List AVal → AHeap → Option (AVal × AHeap)} {nt : Nat} {ops : Array Oper} {ds : Ds} : ∀ (r : List Oper) (env : PT AVal) (H : AHeap) (l : List Snap), (∀ o ∈ r, defA o = false) →
    runTr S call nt ops ds r env H = some l → Trace S call nt ops r ds (fun i => (l.getD i .no).env) (fun i => (l.getD i .no).heap) (fun i => (l.getD i .no).val) ∧ (l.getD 0 .no).env = env ∧ (l.getD 0 .no).heap = H
  | [], env, H, l, _, h => by
    simp only [runTr, Option.some.injEq] at h
    subst h
    exact ⟨⟨fun i o ho => by simp at ho⟩, rfl, rfl⟩
  | o :: r, env, H, l, hdf, h => by
    simp only [runTr] at h
    have mk : ∀ (env1 : PT AVal) (H1 : AHeap) (v : AVal) (l1 : List Snap), runTr S call nt ops ds r env1 H1 = some l1 → l = ⟨env, H, v⟩ :: l1 → aput nt env o.dst v = some env1 →
        ((wantA ops env o = some false ∧ v = .tup [] ∧ H1 = H) ∨ (wantA ops env o = some true ∧ stepA S call (evN S env o) ds H o = some (v, ds, H1))) →
        Trace S call nt ops (o :: r) ds (fun i => (l.getD i .no).env) (fun i => (l.getD i .no).heap) (fun i => (l.getD i .no).val) ∧ (l.getD 0 .no).env = env ∧ (l.getD 0 .no).heap = H := by
      intro env1 H1 v l1 hrun hl hp hs
      subst hl
      obtain ⟨ht, h1, h2⟩ := trace_of_tr r env1 H1 l1 (fun x hx => hdf x (List.mem_cons_of_mem _ hx)) hrun
      refine ⟨⟨fun i x hx => ?_⟩, rfl, rfl⟩
      cases i with
      | zero =>
        simp at hx; subst hx
        show aput nt env o.dst v = some (l1.getD 0 .no).env ∧ ((wantA ops env o = some false ∧ v = .tup [] ∧ (l1.getD 0 .no).heap = H) ∨ (wantA ops env o = some true ∧ stepA S call (evN S env o) ds H o = some (v, ds, (l1.getD 0 .no).heap)))
        rw [h1, h2]
        exact ⟨hp, hs⟩
      | succ i => exact ht.step i x (by simpa using hx)
    split at h
    · cases h
    · rename_i hw
      split at h
      · rename_i env1 hp
        split at h
        · rename_i l1 hr
          exact mk env1 H (.tup []) l1 hr (Option.some.inj h).symm hp (.inl ⟨hw, rfl, rfl⟩)
        · cases h
      · cases h
    · rename_i hw
      split at h
      · cases h
      · rename_i v ds1 H1 hst
        have hds := stepA_ds hst (hdf o List.mem_cons_self)
        subst hds
        split at h
        · rename_i env1 hp
          split at h
          · rename_i l1 hr
            exact mk env1 H1 v l1 hr (Option.some.inj h).symm hp (.inr ⟨hw, hst⟩)
          · cases h
        · cases h
end Ab
end Go.Proofs.YthhnhbpmpdminaaGreatDoor
