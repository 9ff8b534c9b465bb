/-
Several texts as one: Mem Gmd Shr.
-/
import Derived.Test.YthhnhbpmpdminaaGreatDoorWWords
import Derived.Test.YthhnhbpmpdminaaGreatDoorProg
import Derived.Shelf.Strings.SlTrimAscii
import Derived.Shelf.Strconv.AtoiAll
import Derived.Shelf.LaysC
/-
What is known of memory: blocks of cells, what a call leaves alone, rows that grow. Conditions: none.
-/
namespace Go.Proofs.YthhnhbpmpdminaaGreatDoor
set_option maxRecDepth 4096
open Go.RowKit
/-- w' is w with new blocks, and with writes to blocks of S alone. -/
structure Mod (S : Nat → Prop) (w w' : World) : Prop where
  os : w'.os = w.os
  tape : w'.tape = w.tape
  output : w'.output = w.output
  size : w.heap.size ≤ w'.heap.size
  keep : ∀ k, k < w.heap.size → ¬ S k → w'.heap[k]? = w.heap[k]?
theorem Mod.refl (S : Nat → Prop) (w : World) : Mod S w w := ⟨rfl, rfl, rfl, Nat.le_refl _, fun _ _ _ => rfl⟩
theorem Mod.trans {S : Nat → Prop} {a b c : World} (h : Mod S a b) (k : Mod S b c) : Mod S a c :=
  ⟨k.os.trans h.os, k.tape.trans h.tape, k.output.trans h.output, Nat.le_trans h.size k.size, fun i hi hs => (k.keep i (Nat.lt_of_lt_of_le hi h.size) hs).trans (h.keep i hi hs)⟩
theorem Mod.mono {S S' : Nat → Prop} {a b : World} (h : Mod S a b) (hs : ∀ k, k < a.heap.size → S k → S' k) : Mod S' a b :=
  ⟨h.os, h.tape, h.output, h.size, fun k hk hn => h.keep k hk (fun q => hn (hs k hk q))⟩
theorem Mod.drew {S : Nat → Prop} {a w : World} (h : Mod S a w) : Mod S a w.drew := ⟨h.os, h.tape, h.output, h.size, h.keep⟩
theorem Mod.drewN {S : Nat → Prop} {a w : World} (h : Mod S a w) (n : Nat) : Mod S a (w.drewN n) := ⟨h.os, h.tape, h.output, h.size, h.keep⟩
theorem Mod.alloc {S : Nat → Prop} {a w : World} (h : Mod S a w) (o : Obj) : Mod S a (w.alloc o) :=
  h.trans ⟨rfl, rfl, rfl, by simp, fun k hk _ => Below.heap_alloc _ _ _ hk⟩
theorem Mod.setCell {S : Nat → Prop} {a w : World} (h : Mod S a w) {p : Addr} (hp : S p.block ∨ a.heap.size ≤ p.block) (u : Value) : Mod S a (w.setCell p u) := by
  refine ⟨h.os, h.tape, h.output, by simpa [World.setCell] using h.size, fun k hk hs => ?_⟩
  rw [Below.heap_setCell w p u k (by rintro rfl; rcases hp with hp | hp; exact hs hp; omega)]
  exact h.keep k hk hs
theorem Mod.grown {S : Nat → Prop} {a w w' : World} {row : Option Nat} (h : Mod S a w) (hg : w.grownBy w' row) (hr : ∀ k, row = some k → S k ∨ a.heap.size ≤ k) : Mod S a w' :=
  ⟨hg.os.trans h.os, hg.tape.trans h.tape, hg.output.trans h.output, Nat.le_trans h.size hg.size, fun k hk hs => (hg.block k (Nat.lt_of_lt_of_le hk h.size) (fun e => by
    rcases hr k e.symm with q | q
    · exact hs q
    · omega)).trans (h.keep k hk hs)⟩
theorem Mod.of_below {S : Nat → Prop} {w w' : World} (h : Below w.heap.size w w') : Mod S w w' := ⟨h.os, h.tape, h.output, h.size, fun k hk _ => h.block k hk⟩
theorem Mod.below {w w' : World} (h : Mod (fun _ => False) w w') : Below w.heap.size w w' := ⟨h.os, h.tape, h.output, h.size, fun k hk => h.keep k hk (fun q => q)⟩
/-- Only blocks from B on are written. -/
theorem Mod.belowB {B : Nat} {S : Nat → Prop} {w w' : World} (h : Mod S w w') (hS : ∀ k, S k → B ≤ k) (hB : B ≤ w.heap.size) : Below B w w' :=
  ⟨h.os, h.tape, h.output, h.size, fun k hk => h.keep k (by omega) (fun q => by have := hS k q; omega)⟩
theorem Mod.step {S : Nat → Prop} {a w w' : World} (h : Mod S a w) (k : Below w.heap.size w w') : Mod S a w' := h.trans (Mod.of_below k)
/-- Block g is these cells, of element type t, none of them frozen. -/
def Cells (w : World) (g t : Nat) (l : List Value) : Prop := w.heap[g]? = some (.cells l.toArray t (0, 0))
section
variable {w w' : World} {g t : Nat} {l : List Value}
theorem Cells.lt (h : Cells w g t l) : g < w.heap.size := (Array.getElem?_eq_some_iff.1 h).1
theorem Cells.cell (h : Cells w g t l) (i : Nat) (v : Value) (hv : l[i]? = some v) : w.cell? ⟨g, i, none⟩ = some v := by
  unfold World.cell?; unfold Cells at h; rw [h]; simpa using hv
theorem Cells.frozen (h : Cells w g t l) (i : Nat) : w.frozen? ⟨g, i, none⟩ = false := by
  unfold World.frozen?; unfold Cells at h; rw [h]; simp
theorem Cells.keep (h : Cells w g t l) {S : Nat → Prop} (hm : Mod S w w') (hs : ¬ S g) : Cells w' g t l := (hm.keep g h.lt hs).trans h
theorem Cells.drewN (h : Cells w g t l) (n : Nat) : Cells (w.drewN n) g t l := h
theorem Cells.drew (h : Cells w g t l) : Cells w.drew g t l := h
theorem Cells.alloc (h : Cells w g t l) (o : Obj) : Cells (w.alloc o) g t l := (Below.heap_alloc w o g h.lt).trans h
theorem Cells.below (h : Cells w g t l) (hb : Below w.heap.size w w') : Cells w' g t l := (hb.block g h.lt).trans h
theorem Cells.grown (h : Cells w g t l) {row : Option Nat} (hg : w.grownBy w' row) (hr : row ≠ some g) : Cells w' g t l := (hg.block g h.lt (Ne.symm hr)).trans h
theorem Cells.set (h : Cells w g t l) (i : Nat) (u : Value) : Cells (w.setCell ⟨g, i, none⟩ u) g t (l.set i u) := by
  have := heap_setCell_same w g i l.toArray t u h
  unfold Cells; rw [this]; simp
theorem Cells.far (h : Cells w g t l) {p : Addr} (hp : g ≠ p.block) (u : Value) : Cells (w.setCell p u) g t l := (Below.heap_setCell w p u g hp).trans h
theorem Cells.new (w : World) (t : Nat) (l : List Value) : Cells (w.alloc (.cells l.toArray t)) w.heap.size t l := by simpa [Cells] using heap_alloc_new w (.cells l.toArray t)
theorem Cells.ty {t' : Nat} {l' : List Value} (h : Cells w g t l) (h' : Cells w g t' l') : t = t' ∧ l = l' := by
  unfold Cells at h h'
  rw [h] at h'
  injection h' with h'
  injection h' with h1 h2
  exact ⟨h2, by simpa using h1⟩
end
/-- A row of one's own: its block, out of the type. -/
theorem own_cells {w : World} {base e size n : Nat} {v : Value} {xs : List Value} (h : w.ownsRow base e size v n xs) (k : Nat) (hk : v.ownBlock = some k) : ∃ l, Cells w k e l := by
  rcases h.2 with ⟨rfl, _⟩ | ⟨g, cap, cur, rfl, _, hh, _⟩
  · simp [Value.ownBlock] at hk
  · simp [Value.ownBlock] at hk
    subst hk
    exact ⟨cur.toList, by simpa [Cells] using hh⟩
theorem own_ne_cells {w : World} {base e size n : Nat} {v : Value} {xs : List Value} (h : w.ownsRow base e size v n xs) {g t : Nat} {l : List Value} (hg : Cells w g t l) (ht : e ≠ t) : v.ownBlock ≠ some g := by
  intro he
  obtain ⟨l', h'⟩ := own_cells h g he
  exact ht (h'.ty hg).1
theorem own_keep {w w' : World} {base e size n : Nat} {v : Value} {xs : List Value} (h : w.ownsRow base e size v n xs) {S : Nat → Prop} (hm : Mod S w w') (hs : ∀ k, v.ownBlock = some k → ¬ S k) : w'.ownsRow base e size v n xs := by
  refine ⟨h.1, ?_⟩
  rcases h.2 with hn | ⟨g, cap, cur, rfl, hb, hgg, rest⟩
  · exact .inl hn
  · refine .inr ⟨g, cap, cur, rfl, hb, ?_, rest⟩
    rw [hm.keep g (Array.getElem?_eq_some_iff.1 hgg).1 (hs g rfl)]
    exact hgg
theorem own_base_le {w : World} {base e size n : Nat} {v : Value} {xs : List Value} (h : w.ownsRow base e size v n xs) : ∀ k, v.ownBlock = some k → base ≤ k := fun k hk => (h.lt k hk).1
theorem own_lt_size {w : World} {base e size n : Nat} {v : Value} {xs : List Value} (h : w.ownsRow base e size v n xs) : ∀ k, v.ownBlock = some k → k < w.heap.size := fun k hk => (h.lt k hk).2
end Go.Proofs.YthhnhbpmpdminaaGreatDoor
/-
Term graphs as plain things: nodes, what an operator asks of its operands, and what Make tells. Conditions: none.
-/
namespace Go.Proofs.YthhnhbpmpdminaaGreatDoor
set_option maxRecDepth 4096
open Go.RowKit
structure Nd where
  op : Int
  sort : Int
  a : Int
  b : Int
  c : Int
  p : Int
  q : Int
  w : Int
  lo : Int
  hi : Int
  name : ByteArray
def Nd.cells (x : Nd) : List Value := [.int .i64 x.op, .int .i64 x.sort, .int .i64 x.a, .int .i64 x.b, .int .i64 x.c, .int .i64 x.p, .int .i64 x.q, .int .i64 x.w, .int .u64 x.lo, .int .u64 x.hi, .string x.name]
def i64ok (n : Int) : Prop := -9223372036854775808 ≤ n ∧ n ≤ 9223372036854775807
def u64ok (n : Int) : Prop := 0 ≤ n ∧ n ≤ 18446744073709551615
structure Nd.Wf (x : Nd) : Prop where
  op : i64ok x.op
  sort : i64ok x.sort
  a : i64ok x.a
  b : i64ok x.b
  c : i64ok x.c
  p : i64ok x.p
  q : i64ok x.q
  w : i64ok x.w
  lo : u64ok x.lo
  hi : u64ok x.hi
  name : x.name.size ≤ maxLen
def Nd.same (x y : Nd) : Bool := x.op == y.op && x.sort == y.sort && x.a == y.a && x.b == y.b && x.c == y.c && x.p == y.p && x.q == y.q && x.w == y.w && x.lo == y.lo && x.hi == y.hi && x.name.data.toList == y.name.data.toList
theorem ba_ext {s t : ByteArray} (h : s.data.toList = t.data.toList) : s = t := by
  cases s; cases t; simp only at h; rw [Array.toList_inj.1 h]
theorem Nd.same_iff {x y : Nd} : x.same y = true ↔ x = y := by
  constructor
  · intro h
    unfold Nd.same at h
    simp only [Bool.and_eq_true, beq_iff_eq] at h
    obtain ⟨⟨⟨⟨⟨⟨⟨⟨⟨⟨h1, h2⟩, h3⟩, h4⟩, h5⟩, h6⟩, h7⟩, h8⟩, h9⟩, h10⟩, h11⟩ := h
    have := ba_ext h11
    cases x; cases y; simp_all
  · rintro rfl; unfold Nd.same; simp
theorem Nd.cells_inj {x y : Nd} (h : x.cells = y.cells) : x = y := by
  unfold Nd.cells at h
  simp only [List.cons.injEq, Value.int.injEq, true_and, Value.string.injEq, and_true] at h
  obtain ⟨h1, h2, h3, h4, h5, h6, h7, h8, h9, h10, h11⟩ := h
  cases x; cases y; simp_all
theorem Nd.cells_len (x : Nd) : x.cells.length = 11 := rfl
/-- The place of a node, and one; 0: it is not there. -/
def ix (l : List Nd) (x : Nd) : Nat := match l with
  | [] => 0
  | y :: r => if y.same x then 1 else match ix r x with
    | 0 => 0
    | k + 1 => k + 2
/-- The place of a variable's name, and one. -/
def nix (l : List Nd) (s : ByteArray) : Nat := match l with
  | [] => 0
  | y :: r => if y.op == 2 && y.name.data.toList == s.data.toList then 1 else match nix r s with
    | 0 => 0
    | k + 1 => k + 2
theorem ix_get {x : Nd} : ∀ {l : List Nd} {k : Nat}, ix l x = k + 1 → l[k]? = some x
  | [], k, h => by simp [ix] at h
  | y :: r, k, h => by
    unfold ix at h
    split at h
    · rename_i hs
      have : k = 0 := by omega
      subst this
      simp [Nd.same_iff.1 hs]
    · split at h
      · cases h
      · rename_i j hj
        have : k = j + 1 := by omega
        subst this
        simpa using ix_get hj
theorem ix_le {x : Nd} : ∀ (l : List Nd), ix l x ≤ l.length
  | [] => by simp [ix]
  | y :: r => by
    have := ix_le (x := x) r
    unfold ix
    split
    · simp
    · split <;> simp <;> omega
theorem ix_zero {x : Nd} : ∀ {l : List Nd}, ix l x = 0 ↔ x ∉ l
  | [] => by simp [ix]
  | y :: r => by
    have ih := ix_zero (x := x) (l := r)
    unfold ix
    by_cases hs : y.same x
    · rw [if_pos hs]; simp [Nd.same_iff.1 hs]
    · rw [if_neg hs]
      have hne : x ≠ y := fun e => hs (Nd.same_iff.2 e.symm)
      cases hk : ix r x with
      | zero => simp [hne, ih.1 hk]
      | succ k =>
        have : x ∈ r := Classical.byContradiction fun h => by rw [ih.2 h] at hk; cases hk
        simp [this]
theorem ix_append {x : Nd} (y : Nd) : ∀ (l : List Nd), ix (l ++ [y]) x = if ix l x = 0 then (if y.same x then l.length + 1 else 0) else ix l x
  | [] => by simp [ix]
  | z :: r => by
    have ih := ix_append (x := x) y r
    rw [List.cons_append]
    unfold ix
    by_cases hs : z.same x
    · rw [if_pos hs, if_pos hs]; simp
    · rw [if_neg hs, if_neg hs, ih]
      cases hk : ix r x with
      | zero =>
        by_cases hy : y.same x
        · simp [hy]
        · simp [hy]
      | succ k => simp
theorem nix_get {s : ByteArray} : ∀ {l : List Nd} {k : Nat}, nix l s = k + 1 → ∃ y, l[k]? = some y ∧ y.op = 2 ∧ y.name = s
  | [], k, h => by simp [nix] at h
  | y :: r, k, h => by
    unfold nix at h
    split at h
    · rename_i hs
      have : k = 0 := by omega
      subst this
      simp only [Bool.and_eq_true, beq_iff_eq] at hs
      exact ⟨y, rfl, hs.1, ba_ext hs.2⟩
    · split at h
      · cases h
      · rename_i j hj
        have : k = j + 1 := by omega
        subst this
        simpa using nix_get hj
theorem nix_le {s : ByteArray} : ∀ (l : List Nd), nix l s ≤ l.length
  | [] => by simp [nix]
  | y :: r => by
    have := nix_le (s := s) r
    unfold nix
    split
    · simp
    · split <;> simp <;> omega
theorem nix_zero {s : ByteArray} : ∀ {l : List Nd}, nix l s = 0 ↔ ∀ y ∈ l, y.op = 2 → y.name ≠ s
  | [] => by simp [nix]
  | y :: r => by
    have ih := nix_zero (s := s) (l := r)
    unfold nix
    by_cases hs : (y.op == 2 && y.name.data.toList == s.data.toList) = true
    · rw [if_pos hs]
      simp only [Bool.and_eq_true, beq_iff_eq] at hs
      simp only [Nat.one_ne_zero, false_iff]
      exact fun h => h y (by simp) hs.1 (ba_ext hs.2)
    · rw [if_neg hs]
      have hne : y.op = 2 → y.name ≠ s := fun e1 e2 => hs (by simp [e1, e2])
      cases hk : nix r s with
      | zero =>
        simp only [true_iff]
        intro z hz
        rcases List.mem_cons.1 hz with rfl | hz
        · exact hne
        · exact ih.1 hk z hz
      | succ k =>
        simp only [Nat.add_eq_zero_iff, reduceCtorEq, and_false, false_iff]
        intro h
        have := ih.2 (fun z hz => h z (by simp [hz]))
        rw [this] at hk; cases hk
theorem nix_append {s : ByteArray} (y : Nd) : ∀ (l : List Nd), nix (l ++ [y]) s = if nix l s = 0 then (if (y.op == 2 && y.name.data.toList == s.data.toList) = true then l.length + 1 else 0) else nix l s
  | [] => by simp [nix]
  | z :: r => by
    have ih := nix_append (s := s) y r
    rw [List.cons_append]
    unfold nix
    by_cases hs : (z.op == 2 && z.name.data.toList == s.data.toList) = true
    · rw [if_pos hs, if_pos hs]; simp
    · rw [if_neg hs, if_neg hs, ih]
      cases hk : nix r s with
      | zero =>
        by_cases hy : (y.op == 2 && y.name.data.toList == s.data.toList) = true
        · simp only [if_pos hy, if_true]; simp
        · simp only [if_neg hy, if_true]
      | succ k => simp
def arityV (op : Int) : Int := if op < 1 ∨ 44 < op then -1 else if op ≤ 2 then 0 else if op = 3 ∨ op = 10 ∨ op = 11 ∨ 39 ≤ op then 1 else if op = 9 then 3 else 2
def isSort (n : Int) : Bool := decide (0 ≤ n) && decide (n ≤ 128)
def numbV (op p q w : Int) : Option Int :=
  if op = 39 then if 0 ≤ q ∧ q ≤ p ∧ p < w then some (p - q + 1) else none
  else if op = 42 ∨ op = 43 then if 0 ≤ p ∧ q = 0 then some w else none
  else if op = 44 then if 1 ≤ p ∧ q = 0 then some (w * min p 129) else none
  else if 0 ≤ p ∧ q = 0 then some (w + min p 128) else none
def toldV (op p q : Int) (l : List Int) : Option Int :=
  let first := l.getD 0 0
  let last := l.getD (l.length - 1) 0
  if op ≤ 7 then if (p = 0 ∧ q = 0) ∧ first = 0 ∧ last = 0 then some 0 else none
  else if op = 8 then if (p = 0 ∧ q = 0) ∧ first = last then some 0 else none
  else if op = 9 then if (p = 0 ∧ q = 0) ∧ first = 0 ∧ l.getD 1 0 = last then some last else none
  else if op = 38 then if (p = 0 ∧ q = 0) ∧ 0 < first ∧ 0 < last then some (first + last) else none
  else if 39 ≤ op then if 0 < first then numbV op p q first else none
  else if op = 37 then if (p = 0 ∧ q = 0) ∧ first = last ∧ 0 < first then some 1 else none
  else if 29 ≤ op then if (p = 0 ∧ q = 0) ∧ first = last ∧ 0 < first then some 0 else none
  else if (p = 0 ∧ q = 0) ∧ first = last ∧ 0 < first then some first else none
def sortOf (op p q : Int) (l : List Int) : Int × Int :=
  if arityV op < 1 then (0, 32)
  else if (l.length : Int) ≠ arityV op ∨ (l.any fun s => !isSort s) = true then (0, 30)
  else match toldV op p q l with
    | none => (0, 30)
    | some n => if 128 < n then (0, 31) else (n, 0)
structure Gr where
  most : Nat
  l : List Nd
def okOp (len : Nat) (ar i id : Int) : Bool := if i < ar then decide (1 ≤ id) && decide (id ≤ (len : Int)) else id == 0
def formedV (len : Nat) (x : Nd) : Bool := okOp len (arityV x.op) 0 x.a && okOp len (arityV x.op) 1 x.b && okOp len (arityV x.op) 2 x.c && decide (0 ≤ arityV x.op) && (x.op == 1 || (x.w == 0 && x.lo == 0 && x.hi == 0)) && (x.op == 2 || x.name.size == 0)
def rightV (w lo hi : Int) : Bool :=
  if w = 0 then decide (lo ≤ 1) && hi == 0 else decide (0 < w) && decide (w ≤ 128) && decide (lo + hi * 18446744073709551616 < 2 ^ w.toNat)
def sortAt (l : List Nd) (id : Int) : Int := match l[(id - 1).toNat]? with
  | some y => y.sort
  | none => 0
def sortsOf (l : List Nd) (x : Nd) : List Int := ([x.a, x.b, x.c].filter fun id => decide (0 < id)).map (sortAt l)
def sortedV (l : List Nd) (x : Nd) : Nd × Int :=
  if x.op = 1 then if rightV x.w x.lo x.hi = true ∧ x.w = x.sort ∧ x.p = 0 ∧ x.q = 0 then (x, 0) else (x, 30)
  else if x.op = 2 then if isSort x.sort = false ∨ x.p ≠ 0 ∨ x.q ≠ 0 then (x, 30)
    else if x.name.size = 0 ∨ (0 < nix l x.name ∧ sortAt l (nix l x.name : Int) ≠ x.sort) then (x, 34) else (x, 0)
  else ({ x with sort := (sortOf x.op x.p x.q (sortsOf l x)).1 }, (sortOf x.op x.p x.q (sortsOf l x)).2)
def mk (G : Gr) (x : Nd) : (Nat × Int) × Gr :=
  if formedV G.l.length x = false then ((0, 32), G)
  else if (sortedV G.l x).2 ≠ 0 then ((0, (sortedV G.l x).2), G)
  else if ix G.l (sortedV G.l x).1 ≠ 0 then ((ix G.l (sortedV G.l x).1, 0), G)
  else if G.most ≤ G.l.length then ((0, 33), G)
  else ((G.l.length + 1, 0), { G with l := G.l ++ [(sortedV G.l x).1] })
end Go.Proofs.YthhnhbpmpdminaaGreatDoor
/-
Contracts of Go's library at this program, laid by the kit's tool. Conditions: none.
-/
namespace Go.Proofs
set_option maxRecDepth 4096
def Tryz.lays160_ren : Go.Shelf.Ren := ⟨fun | 160 => 93 | 232 => 128 | 231 => 127 | 227 => 129 | 234 => 131 | 233 => 130 | 236 => 133 | 235 => 132 | 228 => 180 | 271 => 183 | 151 => 182 | 197 => 181 | 120 => 231 | 152 => 230 | 260 => 229 | 137 => 190 | 119 => 255 | 224 => 248 | 225 => 247 | 217 => 235 | 266 => 258 | n => n, fun | 9 => 9 | 4 => 4 | 3 => 3 | 5 => 5 | 117 => 220 | 116 => 219 | 0 => 0 | 124 => 223 | 21 => 21 | 105 => 271 | 46 => 259 | 119 => 332 | 139 => 335 | 138 => 334 | n => n, fun | 3 => 5 | 4 => 6 | n => n⟩
theorem Tryz.lays160 : Go.Proofs.Lays.n160 Tryz.prog Tryz.lays160_ren := {
  mixed := by kernel_rfl
  f119 := Tryz.func255.trans (congrArg some (by kernel_rfl))
  f120 := Tryz.func231.trans (congrArg some (by kernel_rfl))
  f137 := Tryz.func190.trans (congrArg some (by kernel_rfl))
  f151 := Tryz.func182.trans (congrArg some (by kernel_rfl))
  f152 := Tryz.func230.trans (congrArg some (by kernel_rfl))
  f160 := Tryz.func93.trans (congrArg some (by kernel_rfl))
  f197 := Tryz.func181.trans (congrArg some (by kernel_rfl))
  f217 := Tryz.func235.trans (congrArg some (by kernel_rfl))
  f224 := Tryz.func248.trans (congrArg some (by kernel_rfl))
  f225 := Tryz.func247.trans (congrArg some (by kernel_rfl))
  f227 := Tryz.func129.trans (congrArg some (by kernel_rfl))
  f228 := Tryz.func180.trans (congrArg some (by kernel_rfl))
  f231 := Tryz.func127.trans (congrArg some (by kernel_rfl))
  f232 := Tryz.func128.trans (congrArg some (by kernel_rfl))
  f233 := Tryz.func130.trans (congrArg some (by kernel_rfl))
  f234 := Tryz.func131.trans (congrArg some (by kernel_rfl))
  f235 := Tryz.func132.trans (congrArg some (by kernel_rfl))
  f236 := Tryz.func133.trans (congrArg some (by kernel_rfl))
  f260 := Tryz.func229.trans (congrArg some (by kernel_rfl))
  f266 := Tryz.func258.trans (congrArg some (by kernel_rfl))
  f271 := Tryz.func183.trans (congrArg some (by kernel_rfl))
  t0 := Tryz.underlying0
  a0 := Tryz.isAgg0
  z0 := Tryz.sizeOf0
  v0 := Tryz.zeroValue0
  t3 := Tryz.underlying3
  a3 := Tryz.isAgg3
  z3 := Tryz.sizeOf3
  v3 := Tryz.zeroValue3
  t4 := Tryz.underlying4
  a4 := Tryz.isAgg4
  z4 := Tryz.sizeOf4
  v4 := Tryz.zeroValue4
  t5 := Tryz.underlying5
  a5 := Tryz.isAgg5
  z5 := Tryz.sizeOf5
  v5 := Tryz.zeroValue5
  t9 := Tryz.underlying9
  a9 := Tryz.isAgg9
  z9 := Tryz.sizeOf9
  v9 := Tryz.zeroValue9
  t21 := Tryz.underlying21
  a21 := Tryz.isAgg21
  z21 := Tryz.sizeOf21
  v21 := Tryz.zeroValue21
  t46 := Tryz.underlying259
  a46 := Tryz.isAgg259
  z46 := Tryz.sizeOf259
  v46 := Tryz.zeroValue259
  t105 := Tryz.underlying271
  a105 := Tryz.isAgg271
  z105 := Tryz.sizeOf271
  v105 := Tryz.zeroValue271
  t116 := Tryz.underlying219
  a116 := Tryz.isAgg219
  z116 := Tryz.sizeOf219
  t117 := Tryz.underlying220
  a117 := Tryz.isAgg220
  z117 := Tryz.sizeOf220
  v117 := Tryz.zeroValue220
  t119 := Tryz.underlying332
  a119 := Tryz.isAgg332
  z119 := Tryz.sizeOf332
  t124 := Tryz.underlying223
  a124 := Tryz.isAgg223
  z124 := Tryz.sizeOf223
  v124 := Tryz.zeroValue223
  t138 := Tryz.underlying334
  a138 := Tryz.isAgg334
  z138 := Tryz.sizeOf334
  v138 := Tryz.zeroValue334
  t139 := Tryz.underlying335
  a139 := Tryz.isAgg335
  z139 := Tryz.sizeOf335
  v139 := Tryz.zeroValue335
  g3 := by kernel_rfl
  g4 := by kernel_rfl }
def Tryz.laysC172_ren : Go.Shelf.Ren := ⟨fun | 172 => 94 | 244 => 134 | 245 => 135 | 247 => 184 | 279 => 185 | 280 => 186 | 281 => 187 | 282 => 188 | 287 => 232 | 316 => 233 | 171 => 53 | 205 => 234 | 321 => 256 | 322 => 257 | 243 => 87 | 246 => 112 | 283 => 161 | 284 => 162 | 285 => 163 | 286 => 164 | 129 => 215 | 317 => 214 | 318 => 216 | 319 => 217 | 320 => 218 | 337 => 250 | 338 => 251 | n => n, fun | 9 => 9 | 3 => 3 | 75 => 25 | 76 => 98 | 4 => 4 | 5 => 5 | 167 => 274 | 37 => 95 | 0 => 0 | 85 => 275 | 2 => 2 | 168 => 277 | 53 => 108 | 175 => 316 | 46 => 259 | 210 => 320 | 127 => 159 | 145 => 339 | 143 => 337 | 21 => 21 | 171 => 249 | 173 => 252 | 212 => 304 | 51 => 212 | 20 => 20 | 213 => 305 | 232 => 349 | 233 => 350 | 80 => 101 | n => n, fun | 15 => 2 | 16 => 3 | 17 => 1 | 18 => 7 | 19 => 8 | n => n⟩
theorem Tryz.laysC172 : Go.Proofs.LaysC.n172 Tryz.prog Tryz.laysC172_ren := {
  mixed := by kernel_rfl
  f129 := Tryz.func215.trans (congrArg some (by kernel_rfl))
  f171 := Tryz.func53.trans (congrArg some (by kernel_rfl))
  f172 := Tryz.func94.trans (congrArg some (by kernel_rfl))
  f205 := Tryz.func234.trans (congrArg some (by kernel_rfl))
  f243 := Tryz.func87.trans (congrArg some (by kernel_rfl))
  f244 := Tryz.func134.trans (congrArg some (by kernel_rfl))
  f245 := Tryz.func135.trans (congrArg some (by kernel_rfl))
  f246 := Tryz.func112.trans (congrArg some (by kernel_rfl))
  f247 := Tryz.func184.trans (congrArg some (by kernel_rfl))
  f279 := Tryz.func185.trans (congrArg some (by kernel_rfl))
  f280 := Tryz.func186.trans (congrArg some (by kernel_rfl))
  f281 := Tryz.func187.trans (congrArg some (by kernel_rfl))
  f282 := Tryz.func188.trans (congrArg some (by kernel_rfl))
  f283 := Tryz.func161.trans (congrArg some (by kernel_rfl))
  f284 := Tryz.func162.trans (congrArg some (by kernel_rfl))
  f285 := Tryz.func163.trans (congrArg some (by kernel_rfl))
  f286 := Tryz.func164.trans (congrArg some (by kernel_rfl))
  f287 := Tryz.func232.trans (congrArg some (by kernel_rfl))
  f316 := Tryz.func233.trans (congrArg some (by kernel_rfl))
  f317 := Tryz.func214.trans (congrArg some (by kernel_rfl))
  f318 := Tryz.func216.trans (congrArg some (by kernel_rfl))
  f319 := Tryz.func217.trans (congrArg some (by kernel_rfl))
  f320 := Tryz.func218.trans (congrArg some (by kernel_rfl))
  f321 := Tryz.func256.trans (congrArg some (by kernel_rfl))
  f322 := Tryz.func257.trans (congrArg some (by kernel_rfl))
  f337 := Tryz.func250.trans (congrArg some (by kernel_rfl))
  f338 := Tryz.func251.trans (congrArg some (by kernel_rfl))
  t0 := Tryz.underlying0
  a0 := Tryz.isAgg0
  z0 := Tryz.sizeOf0
  v0 := Tryz.zeroValue0
  t2 := Tryz.underlying2
  a2 := Tryz.isAgg2
  z2 := Tryz.sizeOf2
  v2 := Tryz.zeroValue2
  t3 := Tryz.underlying3
  a3 := Tryz.isAgg3
  z3 := Tryz.sizeOf3
  v3 := Tryz.zeroValue3
  t4 := Tryz.underlying4
  a4 := Tryz.isAgg4
  z4 := Tryz.sizeOf4
  v4 := Tryz.zeroValue4
  t5 := Tryz.underlying5
  a5 := Tryz.isAgg5
  z5 := Tryz.sizeOf5
  v5 := Tryz.zeroValue5
  t9 := Tryz.underlying9
  a9 := Tryz.isAgg9
  z9 := Tryz.sizeOf9
  v9 := Tryz.zeroValue9
  t20 := Tryz.underlying20
  a20 := Tryz.isAgg20
  z20 := Tryz.sizeOf20
  v20 := Tryz.zeroValue20
  t21 := Tryz.underlying21
  a21 := Tryz.isAgg21
  z21 := Tryz.sizeOf21
  v21 := Tryz.zeroValue21
  t37 := Tryz.underlying95
  a37 := Tryz.isAgg95
  z37 := Tryz.sizeOf95
  v37 := Tryz.zeroValue95
  t46 := Tryz.underlying259
  a46 := Tryz.isAgg259
  z46 := Tryz.sizeOf259
  v46 := Tryz.zeroValue259
  t51 := Tryz.underlying212
  a51 := Tryz.isAgg212
  z51 := Tryz.sizeOf212
  v51 := Tryz.zeroValue212
  t53 := Tryz.underlying108
  a53 := Tryz.isAgg108
  z53 := Tryz.sizeOf108
  v53 := Tryz.zeroValue108
  t75 := Tryz.underlying25
  a75 := Tryz.isAgg25
  z75 := Tryz.sizeOf25
  v75 := Tryz.zeroValue25
  t76 := Tryz.underlying98
  a76 := Tryz.isAgg98
  z76 := Tryz.sizeOf98
  v76 := Tryz.zeroValue98
  t85 := Tryz.underlying275
  a85 := Tryz.isAgg275
  z85 := Tryz.sizeOf275
  v85 := Tryz.zeroValue275
  t127 := Tryz.underlying159
  a127 := Tryz.isAgg159
  z127 := Tryz.sizeOf159
  v127 := Tryz.zeroValue159
  t143 := Tryz.underlying337
  a143 := Tryz.isAgg337
  z143 := Tryz.sizeOf337
  v143 := Tryz.zeroValue337
  t145 := Tryz.underlying339
  a145 := Tryz.isAgg339
  z145 := Tryz.sizeOf339
  v145 := Tryz.zeroValue339
  t167 := Tryz.underlying274
  a167 := Tryz.isAgg274
  z167 := Tryz.sizeOf274
  v167 := Tryz.zeroValue274
  t168 := Tryz.underlying277
  a168 := Tryz.isAgg277
  z168 := Tryz.sizeOf277
  v168 := Tryz.zeroValue277
  t171 := Tryz.underlying249
  a171 := Tryz.isAgg249
  z171 := Tryz.sizeOf249
  v171 := Tryz.zeroValue249
  t173 := Tryz.underlying252
  a173 := Tryz.isAgg252
  z173 := Tryz.sizeOf252
  v173 := Tryz.zeroValue252
  t175 := Tryz.underlying316
  a175 := Tryz.isAgg316
  z175 := Tryz.sizeOf316
  v175 := Tryz.zeroValue316
  t210 := Tryz.underlying320
  a210 := Tryz.isAgg320
  z210 := Tryz.sizeOf320
  v210 := Tryz.zeroValue320
  t212 := Tryz.underlying304
  a212 := Tryz.isAgg304
  z212 := Tryz.sizeOf304
  v212 := Tryz.zeroValue304
  t213 := Tryz.underlying305
  a213 := Tryz.isAgg305
  z213 := Tryz.sizeOf305
  t232 := Tryz.underlying349
  a232 := Tryz.isAgg349
  z232 := Tryz.sizeOf349
  v232 := Tryz.zeroValue349
  t233 := Tryz.underlying350
  a233 := Tryz.isAgg350
  z233 := Tryz.sizeOf350
  v233 := Tryz.zeroValue350
  g15 := by kernel_rfl
  g16 := by kernel_rfl
  g17 := by kernel_rfl
  g18 := by kernel_rfl
  g19 := by kernel_rfl
  t80 := Tryz.underlying101
  a80 := Tryz.isAgg101
  z80 := Tryz.sizeOf101
  v80 := Tryz.zeroValue101
  i0 := by kernel_rfl
  i2 := by kernel_rfl
  i3 := by kernel_rfl
  i4 := by kernel_rfl
  i5 := by kernel_rfl
  i9 := by kernel_rfl
  i20 := by kernel_rfl
  i21 := by kernel_rfl
  i37 := by kernel_rfl
  i46 := by kernel_rfl
  i51 := by kernel_rfl
  i53 := by kernel_rfl
  i75 := by kernel_rfl
  i76 := by kernel_rfl
  i80 := by kernel_rfl
  i85 := by kernel_rfl
  i127 := by kernel_rfl
  i143 := by kernel_rfl
  i145 := by kernel_rfl
  i167 := by kernel_rfl
  i168 := by kernel_rfl
  i171 := by kernel_rfl
  i173 := by kernel_rfl
  i175 := by kernel_rfl
  i210 := by kernel_rfl
  i212 := by kernel_rfl
  i232 := by kernel_rfl
  i233 := by kernel_rfl
  m15 := by kernel_rfl
  m16 := by kernel_rfl
  m17 := by kernel_rfl
  m18 := by kernel_rfl
  m19 := by kernel_rfl
  c0 := by kernel_rfl
  c2 := by kernel_rfl
  c3 := by kernel_rfl
  c4 := by kernel_rfl
  c5 := by kernel_rfl
  c9 := by kernel_rfl
  c20 := by kernel_rfl
  c21 := by kernel_rfl
  c37 := by kernel_rfl
  c46 := by kernel_rfl
  c51 := by kernel_rfl
  c53 := by kernel_rfl
  c75 := by kernel_rfl
  c76 := by kernel_rfl
  c80 := by kernel_rfl
  c85 := by kernel_rfl
  c127 := by kernel_rfl
  c143 := by kernel_rfl
  c145 := by kernel_rfl
  c167 := by kernel_rfl
  c168 := by kernel_rfl
  c171 := by kernel_rfl
  c173 := by kernel_rfl
  c175 := by kernel_rfl
  c210 := by kernel_rfl
  c212 := by kernel_rfl
  c213 := by kernel_rfl
  c232 := by kernel_rfl
  c233 := by kernel_rfl }
end Go.Proofs
