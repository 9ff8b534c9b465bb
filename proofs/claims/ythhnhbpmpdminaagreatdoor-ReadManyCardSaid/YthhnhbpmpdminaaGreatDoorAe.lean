/-
Operations that read or write the abstract memory. Conditions: none.
-/
import Derived.Test.YthhnhbpmpdminaaGreatDoorAr
import Derived.Maps.AppendAt
namespace Go.Proofs.YthhnhbpmpdminaaGreatDoor
namespace Ab
set_option maxRecDepth 4096

def asetL : List AVal → Nat → List AVal → List AVal
  | l, _, [] => l
  | l, o, v :: r => asetL (l.set o v) (o + 1) r
theorem asetL_length : ∀ (r l : List AVal) (o : Nat), (asetL l o r).length = l.length
  | [], _, _ => rfl
  | v :: r, l, o => by rw [asetL, asetL_length r]; simp

section
variable {P : Program} {q : Nat → Bool} {C : Ctx} {H : AHeap} {W : World}
theorem R.congr {H' : AHeap} (h : R P q C H W) (hg : ∀ j, H'.get j = H.get j) (hn : H'.next = H.next) : R P q C H' W :=
  ⟨h.os, h.tape, h.output, h.imm, fun b x hb => h.blk b x (by rw [← hg]; exact hb), fun b1 b2 h1 h2 => h.inj b1 b2 (by rw [← hg]; exact h1) (by rw [← hg]; exact h2), fun b hb => by rw [hn]; exact h.next b hb, fun b hb => by rw [hn]; exact h.res b hb⟩

/-- Cells that are read. -/
def ldCells (H : AHeap) (a : AVal) (n : Nat) : Option (List AVal) :=
  match a with
  | .ptr (some (b, o)) => match H.get b with
    | some (.cells _ _ l) => bif Nat.ble (o + n) l.length then some ((l.drop o).take n) else none
    | _ => none
  | .rp l => bif Nat.ble n l.length then some (l.take n) else none
  | _ => none
theorem cells_of (h : R P q C H W) {b : Nat} {t : TypeId} {row : Bool} {l : List AVal} (hb : H.get b = some (.cells t row l)) {k rc : Nat} (hφ : C.φ b = some (k, rc)) :
    ∃ c : Array Value, W.heap[k]? = some (.cells c t (0, 0)) ∧ VRs C l (c.toList.take l.length) ∧ l.length ≤ c.size ∧ (row = true → rc ≤ maxLen ∧ ∃ inf, P.info? t = some inf ∧ c.size = rc * inf.size) := by
  obtain ⟨_, o, ho, c, rfl, h2, h3⟩ := h.blk b _ hb k rc hφ
  refine ⟨c, ho, h2, ?_, h3⟩
  have := h2.length
  simp at this
  omega
theorem ld_sound (h : R P q C H W) {a : AVal} {v : Value} {n : Nat} {l : List AVal} (hl : ldCells H a n = some l) (ha : VR C a v) :
    ∃ k o vs, v = .pointer (some ⟨k, o, none⟩) ∧ VRs C l vs ∧ vs.length = n ∧ ∀ j u, vs[j]? = some u → W.cell? ⟨k, o + j, none⟩ = some u := by
  cases ha with
  | ptr b o k rc hφ =>
    simp only [ldCells] at hl
    cases hb : H.get b with
    | none => simp [hb] at hl
    | some x =>
      cases x with
      | cells t row c0 =>
        simp only [hb] at hl
        cases hle : Nat.ble (o + n) c0.length with
        | false => rw [hle] at hl; cases hl
        | true =>
          rw [hle] at hl; simp only [cond_true, Option.some.injEq] at hl
          subst hl
          have hle := Nat.le_of_ble_eq_true hle
          obtain ⟨c, hc, hv, hs, _⟩ := cells_of h hb hφ
          refine ⟨k, o, ((c.toList.take c0.length).drop o).take n, rfl, (hv.drop o).take n, by simp; omega, fun j u hj => ?_⟩
          unfold World.cell?
          rw [hc]
          rw [List.getElem?_take] at hj
          split at hj
          · rw [List.getElem?_drop, List.getElem?_take] at hj
            split at hj
            · simpa using hj
            · cases hj
          · cases hj
      | map _ _ => simp [hb] at hl
      | iter _ _ => simp [hb] at hl
  | rp l0 k o hr =>
    simp only [ldCells] at hl
    cases hle : Nat.ble n l0.length with
    | false => rw [hle] at hl; cases hl
    | true =>
      rw [hle] at hl; simp only [cond_true, Option.some.injEq] at hl
      subst hl
      have hle := Nat.le_of_ble_eq_true hle
      have hr' := hr.take n
      have : ∀ (l : List AVal) (o : Nat), RO C l k o → ∃ vs, VRs C l vs ∧ ∀ j u, vs[j]? = some u → C.cell k (o + j) = some u := by
        intro l
        induction l with
        | nil => intro o _; exact ⟨[], .nil, fun j u hj => by simp at hj⟩
        | cons a l ih =>
          intro o hr
          cases hr with
          | cons _ _ _ _ u hu hv ht =>
            obtain ⟨vs, h1, h2⟩ := ih (o + 1) ht
            refine ⟨u :: vs, .cons _ _ _ _ hv h1, fun j w hj => ?_⟩
            cases j with
            | zero => simp at hj; subst hj; exact hu
            | succ j => simp at hj; rw [show o + (j + 1) = o + 1 + j by omega]; exact h2 j w hj
      obtain ⟨vs, h1, h2⟩ := this _ o hr'
      refine ⟨k, o, vs, rfl, h1, by rw [← h1.length]; simp; omega, fun j u hj => ?_⟩
      have hc := h2 j u hj
      unfold Ctx.cell at hc
      cases hi : C.imm k with
      | none => rw [hi] at hc; cases hc
      | some ob =>
        rw [hi] at hc
        unfold World.cell?
        rw [h.imm k ob hi]
        cases ob <;> simp at hc ⊢
        exact hc
  | _ => simp [ldCells] at hl

def aload (P : Program) (H : AHeap) (t : TypeId) (a : AVal) : Option AVal :=
  match tiOf P t with
  | none => none
  | some i => bif isAggD i.desc then (match ldCells H a i.size with | some l => some (.agg l) | none => none)
    else (match ldCells H a 1 with | some [v] => some v | _ => none)
theorem aload_sound (h : R P q C H W) {t : TypeId} {a r : AVal} {v : Value} (hl : aload P H t a = some r) (ha : VR C a v) : ∃ v', (Instr.loadAt t v).run P W = .ok v' W ∧ VR C r v' := by
  unfold aload at hl
  split at hl
  · cases hl
  · rename_i i hti
    have hs := tiOf_spec hti
    cases hd : isAggD i.desc with
    | true =>
      rw [hd] at hl; simp only [cond_true] at hl
      cases hc : ldCells H a i.size with
      | none => rw [hc] at hl; cases hl
      | some l =>
        rw [hc] at hl; simp only [Option.some.injEq] at hl; subst hl
        obtain ⟨k, o, vs, rfl, h1, h2, h3⟩ := ld_sound h hc ha
        refine ⟨.agg vs.toArray, ?_, .agg _ _ (by simpa using h1)⟩
        have := run_loadCells_list (P := P) W ⟨k, o, none⟩ vs (fun j u hj => by rw [Addr.add_mk]; exact h3 j u hj)
        rw [h2] at this
        simp [Instr.loadAt, Instr.sureAddr, loadVar, run_agg hs, hd, run_size hs, this]
    | false =>
      rw [hd] at hl; simp only [cond_false] at hl
      split at hl
      · rename_i w hc
        simp only [Option.some.injEq] at hl; subst hl
        obtain ⟨k, o, vs, rfl, h1, h2, h3⟩ := ld_sound h hc ha
        cases h1 with
        | cons _ u _ _ hu ht =>
          have := h3 0 u rfl
          rw [Nat.add_zero] at this
          exact ⟨u, by simp [Instr.loadAt, Instr.sureAddr, loadVar, run_agg hs, hd, this], hu⟩
      · cases hl

theorem heap_setCell_at {W : World} {k i : Nat} {c : Array Value} {t : TypeId} (hc : W.heap[k]? = some (.cells c t (0, 0))) (u : Value) :
    Upd W (W.setCell ⟨k, i, none⟩ u) k (.cells (c.setIfInBounds i u) t (0, 0)) := by
  refine ⟨rfl, rfl, rfl, ?_, fun j hj _ => ?_⟩
  · simp [World.setCell, Array.getElem?_modify, hc]
  · simp [World.setCell, Array.getElem?_modify]
    intro e; exact absurd e.symm hj
theorem store_one (h : R P q C H W) {b k rc : Nat} {bt : TypeId} {row : Bool} {l : List AVal} (hb : H.get b = some (.cells bt row l)) (hφ : C.φ b = some (k, rc)) {i : Nat} (hi : i < l.length)
    {a : AVal} {u : Value} (ha : VR C a u) (ho : u.oneCell' = true) :
    (store ⟨k, i, none⟩ u).run P W = .ok () (W.setCell ⟨k, i, none⟩ u) ∧ R P q C (H.put b (.cells bt row (l.set i a))) (W.setCell ⟨k, i, none⟩ u) := by
  obtain ⟨c, hc, hv, hs, hr⟩ := cells_of h hb hφ
  constructor
  · have h1 : W.cell? ⟨k, i, none⟩ = some c[i] := by
      unfold World.cell?; rw [hc]; simp
    have h2 : W.frozen? ⟨k, i, none⟩ = false := by unfold World.frozen?; rw [hc]; simp
    cases u <;> simp [store, Sem.run, h1, h2, Value.oneCell'] at ho ⊢
  · refine h.put hb hφ (heap_setCell_at hc u) ⟨_, rfl, ?_, fun hrow => ?_⟩
    · rw [List.length_set, Array.toList_setIfInBounds, List.take_set]
      exact hv.set i ha
    · simpa using hr hrow
theorem store_cells {b k rc : Nat} {bt : TypeId} {row : Bool} (hφ : C.φ b = some (k, rc)) (o : Nat) : ∀ (cs : List AVal) (vs : List Value) (i : Nat) (H : AHeap) (W : World) (l : List AVal), R P q C H W →
    H.get b = some (.cells bt row l) → VRs C cs vs → cs.all oneA = true → o + i + cs.length ≤ l.length →
    ∃ W', (storeCells ⟨k, o, none⟩ vs i).run P W = .ok () W' ∧ R P q C (H.put b (.cells bt row (asetL l (o + i) cs))) W'
  | [], vs, i, H, W, l, h, hb, hv, _, _ => by
    cases hv
    refine ⟨W, by simp [storeCells], h.congr (fun j => ?_) rfl⟩
    rw [AHeap.get_put]
    by_cases e : j = b
    · subst e; rw [if_pos rfl, hb]; rfl
    · rw [if_neg e]
  | a :: cs, vs, i, H, W, l, h, hb, hv, h1, hl => by
    cases hv with
    | cons _ u _ vs' hu ht =>
      simp only [List.all_cons, Bool.and_eq_true] at h1
      simp only [List.length_cons] at hl
      obtain ⟨r1, r2⟩ := store_one h hb hφ (i := o + i) (by omega) hu (oneA_VR hu h1.1)
      obtain ⟨W', r3, r4⟩ := store_cells hφ o cs vs' (i + 1) _ _ (l.set (o + i) a) r2 (by rw [AHeap.get_put, if_pos rfl]) ht h1.2 (by simp; omega)
      refine ⟨W', ?_, r4.congr (fun j => ?_) rfl⟩
      · simp only [storeCells, Sem.run_bind, Addr.add_mk, r1, Result.andThen_ok, r3]
      · rw [AHeap.get_put, AHeap.get_put, AHeap.get_put]
        by_cases e : j = b
        · rw [if_pos e, if_pos e]; rfl
        · rw [if_neg e, if_neg e, if_neg e]

def astore (P : Program) (H : AHeap) (t : TypeId) (a v : AVal) : Option AHeap :=
  match tiOf P t, a with
  | some i, .ptr (some (b, o)) => match H.get b with
    | some (.cells bt row l) => bif Nat.beq (cellsA v).length i.size && (cellsA v).all oneA && Nat.ble (o + (cellsA v).length) l.length then some (H.put b (.cells bt row (asetL l o (cellsA v)))) else none
    | _ => none
  | _, _ => none
theorem astore_sound (h : R P q C H W) {t : TypeId} {a v : AVal} {av vv : Value} {H' : AHeap} (hl : astore P H t a v = some H') (ha : VR C a av) (hv : VR C v vv) :
    ∃ W', (Instr.storeAt t av vv).run P W = .ok () W' ∧ R P q C H' W' := by
  unfold astore at hl
  split at hl
  · rename_i i b o hti
    have hs := tiOf_spec hti
    split at hl
    · rename_i bt row l hb
      cases hc : (Nat.beq (cellsA v).length i.size && (cellsA v).all oneA && Nat.ble (o + (cellsA v).length) l.length) with
      | false => rw [hc] at hl; cases hl
      | true =>
        rw [hc] at hl; simp only [cond_true, Option.some.injEq] at hl; subst hl
        simp only [Bool.and_eq_true] at hc
        obtain ⟨⟨c1, c2⟩, c3⟩ := hc
        have c1 := Nat.eq_of_beq_eq_true c1
        have c3 := Nat.le_of_ble_eq_true c3
        have ht : isTop v = false := by cases v <;> first | rfl | simp [cellsA, oneA] at c2
        have hcs := cellsA_VR hv ht
        cases ha with
        | ptr b o k rc hφ =>
          obtain ⟨W', r1, r2⟩ := store_cells hφ o _ _ 0 H W l h hb hcs c2 (by omega)
          refine ⟨W', ?_, by simpa using r2⟩
          have hsz : vv.cells.size = i.size := by rw [← c1, hcs.length]; simp
          simp [Instr.storeAt, Instr.sureAddr, storeVar, run_size hs, hsz, r1]
    · cases hl
  · cases hl

/- New blocks. -/
theorem new_cells (h : R P q C H W) {t : TypeId} {l : List AVal} {c : Array Value} (hv : VRs C l c.toList) :
    R P q (C.bind H.next W.heap.size 0) (H.new (.cells t false l)) { W with heap := W.heap.push (.cells c t) } ∧ C.Le (C.bind H.next W.heap.size 0) := by
  have hle := Ctx.bind_le h.fresh W.heap.size 0
  refine ⟨h.alloc ⟨c, rfl, ?_, fun e => by cases e⟩, hle⟩
  have : l.length = c.toList.length := hv.length
  rw [this, List.take_length]
  exact hv.mono hle
theorem new_row (h : R P q C H W) {t : TypeId} {l : List AVal} {c : Array Value} {inf : TypeInfo} {rc : Nat} (hv : VRs C l c.toList) (hi : P.info? t = some inf) (hc : c.size = rc * inf.size) (hm : rc ≤ maxLen) :
    R P q (C.bind H.next W.heap.size rc) (H.new (.cells t true l)) { W with heap := W.heap.push (.cells c t) } ∧ C.Le (C.bind H.next W.heap.size rc) := by
  have hle := Ctx.bind_le h.fresh W.heap.size rc
  refine ⟨h.alloc ⟨c, rfl, ?_, fun _ => ⟨hm, inf, hi, hc⟩⟩, hle⟩
  have : l.length = c.toList.length := hv.length
  rw [this, List.take_length]
  exact hv.mono hle
end
end Ab
end Go.Proofs.YthhnhbpmpdminaaGreatDoor
