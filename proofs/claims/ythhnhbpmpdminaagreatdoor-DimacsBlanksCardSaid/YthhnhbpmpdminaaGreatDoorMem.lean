/-
What is known of memory: blocks of cells, what a call leaves alone, rows that grow. Conditions: none.
-/
import Derived.Test.YthhnhbpmpdminaaGreatDoorWWords
namespace Go.Proofs.YthhnhbpmpdminaaGreatDoor
set_option maxRecDepth 4096
open Go.RowKit

/-- w' is w with new blocks, and with writes to blocks of S alone. -/
structure Mod (S : Nat → Prop) (w w' : World) : Prop where
  os : w'.os = w.os
  tape : w'.tape = w.tape
  output : w'.output = w.output
  size : w.heap.size ≤ w'.heap.size
  keep : ∀ k, k < w.heap.size → ¬ S k → w'.heap[k]? = w.heap[k]?

theorem Mod.refl (S : Nat → Prop) (w : World) : Mod S w w := ⟨rfl, rfl, rfl, Nat.le_refl _, fun _ _ _ => rfl⟩
theorem Mod.trans {S : Nat → Prop} {a b c : World} (h : Mod S a b) (k : Mod S b c) : Mod S a c :=
  ⟨k.os.trans h.os, k.tape.trans h.tape, k.output.trans h.output, Nat.le_trans h.size k.size, fun i hi hs => (k.keep i (Nat.lt_of_lt_of_le hi h.size) hs).trans (h.keep i hi hs)⟩
theorem Mod.mono {S S' : Nat → Prop} {a b : World} (h : Mod S a b) (hs : ∀ k, k < a.heap.size → S k → S' k) : Mod S' a b :=
  ⟨h.os, h.tape, h.output, h.size, fun k hk hn => h.keep k hk (fun q => hn (hs k hk q))⟩
theorem Mod.drew {S : Nat → Prop} {a w : World} (h : Mod S a w) : Mod S a w.drew := ⟨h.os, h.tape, h.output, h.size, h.keep⟩
theorem Mod.drewN {S : Nat → Prop} {a w : World} (h : Mod S a w) (n : Nat) : Mod S a (w.drewN n) := ⟨h.os, h.tape, h.output, h.size, h.keep⟩
theorem Mod.alloc {S : Nat → Prop} {a w : World} (h : Mod S a w) (o : Obj) : Mod S a (w.alloc o) :=
  h.trans ⟨rfl, rfl, rfl, by simp, fun k hk _ => Below.heap_alloc _ _ _ hk⟩
theorem Mod.setCell {S : Nat → Prop} {a w : World} (h : Mod S a w) {p : Addr} (hp : S p.block ∨ a.heap.size ≤ p.block) (u : Value) : Mod S a (w.setCell p u) := by
  refine ⟨h.os, h.tape, h.output, by simpa [World.setCell] using h.size, fun k hk hs => ?_⟩
  rw [Below.heap_setCell w p u k (by rintro rfl; rcases hp with hp | hp; exact hs hp; omega)]
  exact h.keep k hk hs
theorem Mod.grown {S : Nat → Prop} {a w w' : World} {row : Option Nat} (h : Mod S a w) (hg : w.grownBy w' row) (hr : ∀ k, row = some k → S k ∨ a.heap.size ≤ k) : Mod S a w' :=
  ⟨hg.os.trans h.os, hg.tape.trans h.tape, hg.output.trans h.output, Nat.le_trans h.size hg.size, fun k hk hs => (hg.block k (Nat.lt_of_lt_of_le hk h.size) (fun e => by
    rcases hr k e.symm with q | q
    · exact hs q
    · omega)).trans (h.keep k hk hs)⟩
theorem Mod.of_below {S : Nat → Prop} {w w' : World} (h : Below w.heap.size w w') : Mod S w w' := ⟨h.os, h.tape, h.output, h.size, fun k hk _ => h.block k hk⟩
theorem Mod.below {w w' : World} (h : Mod (fun _ => False) w w') : Below w.heap.size w w' := ⟨h.os, h.tape, h.output, h.size, fun k hk => h.keep k hk (fun q => q)⟩
/-- Only blocks from B on are written. -/
theorem Mod.belowB {B : Nat} {S : Nat → Prop} {w w' : World} (h : Mod S w w') (hS : ∀ k, S k → B ≤ k) (hB : B ≤ w.heap.size) : Below B w w' :=
  ⟨h.os, h.tape, h.output, h.size, fun k hk => h.keep k (by omega) (fun q => by have := hS k q; omega)⟩
theorem Mod.step {S : Nat → Prop} {a w w' : World} (h : Mod S a w) (k : Below w.heap.size w w') : Mod S a w' := h.trans (Mod.of_below k)

/-- Block g is these cells, of element type t, none of them frozen. -/
def Cells (w : World) (g t : Nat) (l : List Value) : Prop := w.heap[g]? = some (.cells l.toArray t (0, 0))

section
variable {w w' : World} {g t : Nat} {l : List Value}
theorem Cells.lt (h : Cells w g t l) : g < w.heap.size := (Array.getElem?_eq_some_iff.1 h).1
theorem Cells.cell (h : Cells w g t l) (i : Nat) (v : Value) (hv : l[i]? = some v) : w.cell? ⟨g, i, none⟩ = some v := by
  unfold World.cell?; unfold Cells at h; rw [h]; simpa using hv
theorem Cells.frozen (h : Cells w g t l) (i : Nat) : w.frozen? ⟨g, i, none⟩ = false := by
  unfold World.frozen?; unfold Cells at h; rw [h]; simp
theorem Cells.keep (h : Cells w g t l) {S : Nat → Prop} (hm : Mod S w w') (hs : ¬ S g) : Cells w' g t l := (hm.keep g h.lt hs).trans h
theorem Cells.drewN (h : Cells w g t l) (n : Nat) : Cells (w.drewN n) g t l := h
theorem Cells.drew (h : Cells w g t l) : Cells w.drew g t l := h
theorem Cells.alloc (h : Cells w g t l) (o : Obj) : Cells (w.alloc o) g t l := (Below.heap_alloc w o g h.lt).trans h
theorem Cells.below (h : Cells w g t l) (hb : Below w.heap.size w w') : Cells w' g t l := (hb.block g h.lt).trans h
theorem Cells.grown (h : Cells w g t l) {row : Option Nat} (hg : w.grownBy w' row) (hr : row ≠ some g) : Cells w' g t l := (hg.block g h.lt (Ne.symm hr)).trans h
theorem Cells.set (h : Cells w g t l) (i : Nat) (u : Value) : Cells (w.setCell ⟨g, i, none⟩ u) g t (l.set i u) := by
  have := heap_setCell_same w g i l.toArray t u h
  unfold Cells; rw [this]; simp
theorem Cells.far (h : Cells w g t l) {p : Addr} (hp : g ≠ p.block) (u : Value) : Cells (w.setCell p u) g t l := (Below.heap_setCell w p u g hp).trans h
theorem Cells.new (w : World) (t : Nat) (l : List Value) : Cells (w.alloc (.cells l.toArray t)) w.heap.size t l := by simpa [Cells] using heap_alloc_new w (.cells l.toArray t)
theorem Cells.ty {t' : Nat} {l' : List Value} (h : Cells w g t l) (h' : Cells w g t' l') : t = t' ∧ l = l' := by
  unfold Cells at h h'
  rw [h] at h'
  injection h' with h'
  injection h' with h1 h2
  exact ⟨h2, by simpa using h1⟩
end

/-- A row of one's own: its block, out of the type. -/
theorem own_cells {w : World} {base e size n : Nat} {v : Value} {xs : List Value} (h : w.ownsRow base e size v n xs) (k : Nat) (hk : v.ownBlock = some k) : ∃ l, Cells w k e l := by
  rcases h.2 with ⟨rfl, _⟩ | ⟨g, cap, cur, rfl, _, hh, _⟩
  · simp [Value.ownBlock] at hk
  · simp [Value.ownBlock] at hk
    subst hk
    exact ⟨cur.toList, by simpa [Cells] using hh⟩
theorem own_ne_cells {w : World} {base e size n : Nat} {v : Value} {xs : List Value} (h : w.ownsRow base e size v n xs) {g t : Nat} {l : List Value} (hg : Cells w g t l) (ht : e ≠ t) : v.ownBlock ≠ some g := by
  intro he
  obtain ⟨l', h'⟩ := own_cells h g he
  exact ht (h'.ty hg).1
theorem own_keep {w w' : World} {base e size n : Nat} {v : Value} {xs : List Value} (h : w.ownsRow base e size v n xs) {S : Nat → Prop} (hm : Mod S w w') (hs : ∀ k, v.ownBlock = some k → ¬ S k) : w'.ownsRow base e size v n xs := by
  refine ⟨h.1, ?_⟩
  rcases h.2 with hn | ⟨g, cap, cur, rfl, hb, hgg, rest⟩
  · exact .inl hn
  · refine .inr ⟨g, cap, cur, rfl, hb, ?_, rest⟩
    rw [hm.keep g (Array.getElem?_eq_some_iff.1 hgg).1 (hs g rfl)]
    exact hgg
theorem own_base_le {w : World} {base e size n : Nat} {v : Value} {xs : List Value} (h : w.ownsRow base e size v n xs) : ∀ k, v.ownBlock = some k → base ≤ k := fun k hk => (h.lt k hk).1
theorem own_lt_size {w : World} {base e size n : Nat} {v : Value} {xs : List Value} (h : w.ownsRow base e size v n xs) : ∀ k, v.ownBlock = some k → k < w.heap.size := fun k hk => (h.lt k hk).2
end Go.Proofs.YthhnhbpmpdminaaGreatDoor
