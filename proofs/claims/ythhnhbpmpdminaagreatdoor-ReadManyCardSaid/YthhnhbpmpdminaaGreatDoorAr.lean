/-
The abstract memory stands for the model's: what writes, new blocks and blocks that move leave of it. Conditions: none.
-/
import Derived.Test.YthhnhbpmpdminaaGreatDoorAo
import Derived.Laws.AppendOwn
import Derived.Laws.World
namespace Go.Proofs.YthhnhbpmpdminaaGreatDoor
namespace Ab
set_option maxRecDepth 4096

def Ctx.bind (C : Ctx) (b k rc : Nat) : Ctx := { C with φ := fun j => if j = b then some (k, rc) else C.φ j }
theorem Ctx.bind_le {C : Ctx} {b : Nat} (h : C.φ b = none) (k rc : Nat) : C.Le (C.bind b k rc) :=
  ⟨fun j x hj => by
    have : j ≠ b := by rintro rfl; rw [h] at hj; cases hj
    simp only [Ctx.bind, if_neg this, hj], fun _ _ h => h, rfl, rfl, rfl, rfl, rfl⟩
theorem Ctx.bind_self (C : Ctx) (b k rc : Nat) : (C.bind b k rc).φ b = some (k, rc) := by simp [Ctx.bind]

theorem ER.mono {C D : Ctx} (hc : C.Le D) {x : AVal × AVal × Nat} {e : MapEntry} (h : ER C x e) : ER D x e := ⟨h.key.mono hc, h.val.mono hc, h.born⟩
theorem BR.mono {P : Program} {C D : Ctx} (hc : C.Le D) {rc : Nat} {x : ABlk} {o : Obj} (h : BR P C rc x o) : BR P D rc x o := by
  cases x with
  | cells t row l => obtain ⟨c, h1, h2, h3⟩ := h; exact ⟨c, h1, h2.mono hc, h3⟩
  | map es clock => obtain ⟨es', h1, h2⟩ := h; exact ⟨es', h1, h2.mono hc⟩
  | iter s pos => exact h

section
variable {P : Program} {q : Nat → Bool} {C : Ctx} {H : AHeap} {W : World}
theorem R.fresh (h : R P q C H W) : C.φ H.next = none := by
  cases hn : C.φ H.next with
  | none => rfl
  | some x => have := h.next H.next (by rw [hn]; exact fun q => by cases q); omega
theorem R.imm_none (h : R P q C H W) {k : Nat} (hk : W.heap.size ≤ k) : C.imm k = none := by
  cases hi : C.imm k with
  | none => rfl
  | some o =>
    have := h.imm k o hi
    have := (Array.getElem?_eq_some_iff.1 this).1
    omega
theorem R.lt (h : R P q C H W) {b : Nat} {x : ABlk} (hb : H.get b = some x) {k rc : Nat} (hφ : C.φ b = some (k, rc)) : k < W.heap.size := by
  obtain ⟨_, o, ho, _⟩ := h.blk b x hb k rc hφ
  exact (Array.getElem?_eq_some_iff.1 ho).1
theorem R.drew (h : R P q C H W) (n : Nat) : R P q C H { W with drawn := n } := ⟨h.os, h.tape, h.output, h.imm, h.blk, h.inj, h.next, h.res⟩

/-- One block is written. -/
structure Upd (W W' : World) (k : Nat) (o : Obj) : Prop where
  os : W'.os = W.os
  tape : W'.tape = W.tape
  output : W'.output = W.output
  here : W'.heap[k]? = some o
  else_ : ∀ j, j ≠ k → j < W.heap.size → W'.heap[j]? = W.heap[j]?
theorem R.put (h : R P q C H W) {b : Nat} {x0 x : ABlk} (hb : H.get b = some x0) {k rc : Nat} (hφ : C.φ b = some (k, rc)) {W' : World} {o : Obj} (u : Upd W W' k o) (hx : BR P C rc x o) : R P q C (H.put b x) W' := by
  have hk := h.lt hb hφ
  have hi : C.imm k = none := (h.blk b x0 hb k rc hφ).1
  refine ⟨u.os.trans h.os, u.tape.trans h.tape, u.output.trans h.output, fun j o' hj => ?_, fun b' x' hb' k' rc' hφ' => ?_, fun b1 b2 h1 h2 k1 rc1 rc2 p1 p2 => ?_, h.next, h.res⟩
  · have hne : j ≠ k := by rintro rfl; rw [hi] at hj; cases hj
    have := h.imm j o' hj
    rw [u.else_ j hne (Array.getElem?_eq_some_iff.1 this).1]
    exact this
  · rw [AHeap.get_put] at hb'
    by_cases e : b' = b
    · subst e
      rw [if_pos rfl] at hb'
      rw [hφ] at hφ'
      cases hφ'; cases hb'
      exact ⟨hi, o, u.here, hx⟩
    · rw [if_neg e] at hb'
      obtain ⟨q1, o', q2, q3⟩ := h.blk b' x' hb' k' rc' hφ'
      have hne : k' ≠ k := by
        rintro rfl
        exact e (h.inj b' b (by rw [hb']; exact fun q => by cases q) (by rw [hb]; exact fun q => by cases q) k' rc' rc hφ' hφ)
      exact ⟨q1, o', by rw [u.else_ k' hne (Array.getElem?_eq_some_iff.1 q2).1]; exact q2, q3⟩
  · have : ∀ j, (H.put b x).get j ≠ none → H.get j ≠ none := by
      intro j hj
      rw [AHeap.get_put] at hj
      by_cases e : j = b
      · subst e; rw [hb]; exact fun q => by cases q
      · rw [if_neg e] at hj; exact hj
    exact h.inj b1 b2 (this b1 h1) (this b2 h2) k1 rc1 rc2 p1 p2

/-- A block is gone, for what may be known of it. -/
theorem R.kill (h : R P q C H W) (b : Nat) : R P q C (H.kill b) W := by
  have hg : ∀ j x, (H.kill b).get j = some x → H.get j = some x := by
    intro j x hj
    rw [AHeap.get_kill] at hj
    by_cases e : j = b
    · rw [if_pos e] at hj; cases hj
    · rw [if_neg e] at hj; exact hj
  have hn : ∀ j, (H.kill b).get j ≠ none → H.get j ≠ none := by
    intro j hj
    cases hx : (H.kill b).get j with
    | none => exact absurd hx hj
    | some x => rw [hg j x hx]; exact fun q => by cases q
  exact ⟨h.os, h.tape, h.output, h.imm, fun b' x' hb' => h.blk b' x' (hg b' x' hb'), fun b1 b2 h1 h2 => h.inj b1 b2 (hn b1 h1) (hn b2 h2), h.next, h.res⟩

theorem R.killed (h : R P q C H W) {b : Nat} {x0 : ABlk} (hb : H.get b = some x0) {k rc : Nat} (hφ : C.φ b = some (k, rc)) {W' : World} {o : Obj} (u : Upd W W' k o) : R P q C (H.kill b) W' := by
  have hk := h.lt hb hφ
  have hi : C.imm k = none := (h.blk b x0 hb k rc hφ).1
  have g := h.kill b
  refine ⟨u.os.trans h.os, u.tape.trans h.tape, u.output.trans h.output, fun j o' hj => ?_, fun b' x' hb' k' rc' hφ' => ?_, g.inj, g.next, g.res⟩
  · have hne : j ≠ k := by rintro rfl; rw [hi] at hj; cases hj
    have := h.imm j o' hj
    rw [u.else_ j hne (Array.getElem?_eq_some_iff.1 this).1]
    exact this
  · obtain ⟨q1, o', q2, q3⟩ := g.blk b' x' hb' k' rc' hφ'
    have hne : k' ≠ k := by
      rintro rfl
      rw [AHeap.get_kill] at hb'
      by_cases e : b' = b
      · rw [if_pos e] at hb'; cases hb'
      · rw [if_neg e] at hb'
        exact e (h.inj b' b (by rw [hb']; exact fun q => by cases q) (by rw [hb]; exact fun q => by cases q) _ _ _ hφ' hφ)
    exact ⟨q1, o', by rw [u.else_ k' hne (Array.getElem?_eq_some_iff.1 q2).1]; exact q2, q3⟩

/-- A block comes up: at a place of the model's memory that no block that lives stands for. -/
theorem R.new (h : R P q C H W) {W' : World} {k rc : Nat} {x : ABlk} {o : Obj} (ho : W'.os = W.os) (ht : W'.tape = W.tape) (hu : W'.output = W.output)
    (hk : W'.heap[k]? = some o) (hi : C.imm k = none) (hold : ∀ j, j ≠ k → j < W.heap.size → W'.heap[j]? = W.heap[j]?)
    (hfree : ∀ b y rc', H.get b = some y → C.φ b = some (k, rc') → False) (hx : BR P (C.bind H.next k rc) rc x o) : R P q (C.bind H.next k rc) (H.new x) W' := by
  have hfr := h.fresh
  have hle := Ctx.bind_le hfr k rc
  refine ⟨ho.trans h.os, ht.trans h.tape, hu.trans h.output, fun j o' hj => ?_, fun b' x' hb' k' rc' hφ' => ?_, fun b1 b2 h1 h2 k1 rc1 rc2 p1 p2 => ?_, fun b hb => ?_, fun b hb => ?_⟩
  · have hj' : C.imm j = some o' := hj
    have hne : j ≠ k := by rintro rfl; rw [hi] at hj'; cases hj'
    have := h.imm j o' hj'
    rw [hold j hne (Array.getElem?_eq_some_iff.1 this).1]
    exact this
  · rw [AHeap.get_new] at hb'
    by_cases e : b' = H.next
    · subst e
      rw [if_pos rfl] at hb'
      rw [Ctx.bind_self] at hφ'
      cases hφ'; cases hb'
      exact ⟨hi, o, hk, hx⟩
    · rw [if_neg e] at hb'
      have hφ0 : C.φ b' = some (k', rc') := by simpa [Ctx.bind, e] using hφ'
      obtain ⟨q1, o', q2, q3⟩ := h.blk b' x' hb' k' rc' hφ0
      have hne : k' ≠ k := by rintro rfl; exact hfree b' x' rc' hb' hφ0
      exact ⟨q1, o', by rw [hold k' hne (Array.getElem?_eq_some_iff.1 q2).1]; exact q2, q3.mono hle⟩
  · have gn : ∀ j, (H.new x).get j ≠ none → j ≠ H.next → H.get j ≠ none := by
      intro j hj e
      rw [AHeap.get_new, if_neg e] at hj; exact hj
    by_cases e1 : b1 = H.next
    · by_cases e2 : b2 = H.next
      · rw [e1, e2]
      · exfalso
        subst e1
        rw [Ctx.bind_self] at p1
        cases p1
        have p2' : C.φ b2 = some (k, rc2) := by simpa [Ctx.bind, e2] using p2
        cases hx2 : H.get b2 with
        | none => exact gn b2 h2 e2 hx2
        | some y => exact hfree b2 y rc2 hx2 p2'
    · by_cases e2 : b2 = H.next
      · exfalso
        subst e2
        rw [Ctx.bind_self] at p2
        cases p2
        have p1' : C.φ b1 = some (k, rc1) := by simpa [Ctx.bind, e1] using p1
        cases hx1 : H.get b1 with
        | none => exact gn b1 h1 e1 hx1
        | some y => exact hfree b1 y rc1 hx1 p1'
      · have p1' : C.φ b1 = some (k1, rc1) := by simpa [Ctx.bind, e1] using p1
        have p2' : C.φ b2 = some (k1, rc2) := by simpa [Ctx.bind, e2] using p2
        exact h.inj b1 b2 (gn b1 h1 e1) (gn b2 h2 e2) k1 rc1 rc2 p1' p2'
  · by_cases e : b = H.next
    · subst e; show H.next < H.next + 1; omega
    · have : C.φ b ≠ none := by simpa [Ctx.bind, e] using hb
      have := h.next b this
      show b < H.next + 1
      omega
  · obtain ⟨h1, h2⟩ := h.res b hb
    have hne : b ≠ H.next := by omega
    exact ⟨by simpa [Ctx.bind, hne] using h1, by show b < H.next + 1; omega⟩
theorem R.alloc (h : R P q C H W) {rc : Nat} {x : ABlk} {o : Obj} (hx : BR P (C.bind H.next W.heap.size rc) rc x o) : R P q (C.bind H.next W.heap.size rc) (H.new x) { W with heap := W.heap.push o } :=
  h.new rfl rfl rfl (by simp) (h.imm_none (Nat.le_refl _)) (fun j _ hj => by
    have : j ≠ W.heap.size := by omega
    simp [Array.getElem?_push, this]) (fun b y rc' hb hφ => by have := h.lt hb hφ; omega) hx
/-- A new block that nothing writes. -/
def Ctx.lay (C : Ctx) (k : Nat) (o : Obj) : Ctx := { C with imm := fun j => if j = k then some o else C.imm j }
theorem R.lay (h : R P q C H W) (o : Obj) : R P q (C.lay W.heap.size o) H { W with heap := W.heap.push o } ∧ C.Le (C.lay W.heap.size o) := by
  have hle : C.Le (C.lay W.heap.size o) := ⟨fun _ _ q => q, fun k o' hk => by
    have : k ≠ W.heap.size := fun e => by rw [h.imm_none (Nat.le_of_eq e.symm)] at hk; cases hk
    simpa [Ctx.lay, this] using hk, rfl, rfl, rfl, rfl, rfl⟩
  refine ⟨⟨h.os, h.tape, h.output, fun j o' hj => ?_, fun b x hb k rc hφ => ?_, h.inj, h.next, h.res⟩, hle⟩
  · by_cases e : j = W.heap.size
    · subst e
      have : some o = some o' := by simpa [Ctx.lay] using hj
      cases this
      simp
    · have hj' : C.imm j = some o' := by simpa [Ctx.lay, e] using hj
      have := h.imm j o' hj'
      simpa [Array.getElem?_push, e] using this
  · have hlt := h.lt hb hφ
    obtain ⟨q1, o', q2, q3⟩ := h.blk b x hb k rc hφ
    have e : k ≠ W.heap.size := by omega
    exact ⟨by simpa [Ctx.lay, e] using q1, o', by simpa [Array.getElem?_push, e] using q2, q3.mono hle⟩
end
end Ab
end Go.Proofs.YthhnhbpmpdminaaGreatDoor
