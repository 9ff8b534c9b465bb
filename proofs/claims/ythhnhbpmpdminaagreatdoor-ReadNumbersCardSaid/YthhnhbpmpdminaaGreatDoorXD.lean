/-
Several texts as one: Sx Stk Psr.
-/
import Derived.Test.YthhnhbpmpdminaaGreatDoorXC
/-
Bracketed things as trees, and how they lie in memory. Conditions: none.
-/
namespace Go.Proofs.YthhnhbpmpdminaaGreatDoor
set_option maxRecDepth 4096
open Go.RowKit
structure Sx where
  word : ByteArray
  list : Bool
  kids : List Sx
mutual
def RT (w : World) (S : Nat → Prop) : Sx → List Value → Prop
  | ⟨wd, l, ks⟩, cs => ∃ A c, cs = [.string wd, .bool l, .slice A ks.length c] ∧ ks.length ≤ c ∧ c ≤ 9223372036854775807 ∧ wd.size ≤ 9223372036854775807 ∧ RL w S ks A 0 ∧ ks.length ≤ 2932031007317
def RL (w : World) (S : Nat → Prop) : List Sx → Option Addr → Nat → Prop
  | [], _, _ => True
  | k :: r, A, j => (∃ ad cs, A = some ad ∧ S ad.block ∧ (∀ i u, cs[i]? = some u → w.cell? (ad.add (j * 3 + i)) = some u) ∧ RT w S k cs) ∧ RL w S r A (j + 1)
end
theorem RT_cells {w : World} {S : Nat → Prop} {x : Sx} {cs : List Value} (h : RT w S x cs) : ∃ A c, cs = [.string x.word, .bool x.list, .slice A x.kids.length c] ∧ x.kids.length ≤ c ∧ c ≤ 9223372036854775807 ∧ x.word.size ≤ 9223372036854775807 ∧ RL w S x.kids A 0 := by
  cases x; unfold RT at h; obtain ⟨A, c, h1, h2, h3, h4, h5, _⟩ := h; exact ⟨A, c, h1, h2, h3, h4, h5⟩
/-- A thing has few kids: so many as memory holds. -/
theorem RT_few {w : World} {S : Nat → Prop} {x : Sx} {cs : List Value} (h : RT w S x cs) : x.kids.length ≤ 2932031007317 := by
  cases x; unfold RT at h; obtain ⟨A, c, h1, h2, h3, h4, h5, h6⟩ := h; exact h6
theorem RT_mk {w : World} {S : Nat → Prop} (x : Sx) {A : Option Addr} {c : Nat} (h1 : x.kids.length ≤ c) (h2 : c ≤ 9223372036854775807) (h3 : x.word.size ≤ 9223372036854775807) (h4 : RL w S x.kids A 0) (h5 : x.kids.length ≤ 2932031007317) : RT w S x [.string x.word, .bool x.list, .slice A x.kids.length c] := by
  cases x; unfold RT; exact ⟨A, c, rfl, h1, h2, h3, h4, h5⟩
theorem RT_len {w : World} {S : Nat → Prop} {x : Sx} {cs : List Value} (h : RT w S x cs) : cs.length = 3 := by
  obtain ⟨A, c, rfl, _⟩ := RT_cells h; rfl
theorem RT_one {w : World} {S : Nat → Prop} {x : Sx} {cs : List Value} (h : RT w S x cs) : ∀ u ∈ cs, u.oneCell' = true := by
  obtain ⟨A, c, rfl, _⟩ := RT_cells h
  intro u hu
  simp at hu
  rcases hu with rfl | rfl | rfl <;> rfl
mutual
theorem RT_move {w w' : World} {S S' : Nat → Prop} (hm : ∀ k, S k → w'.heap[k]? = w.heap[k]?) (hs : ∀ k, S k → S' k) : ∀ (x : Sx) (cs : List Value), RT w S x cs → RT w' S' x cs
  | ⟨wd, l, ks⟩, cs, h => by
    unfold RT at h ⊢
    obtain ⟨A, c, h1, h2, h3, h4, h5, h6⟩ := h
    exact ⟨A, c, h1, h2, h3, h4, RL_move hm hs ks A 0 h5, h6⟩
theorem RL_move {w w' : World} {S S' : Nat → Prop} (hm : ∀ k, S k → w'.heap[k]? = w.heap[k]?) (hs : ∀ k, S k → S' k) : ∀ (ks : List Sx) (A : Option Addr) (j : Nat), RL w S ks A j → RL w' S' ks A j
  | [], _, _, _ => by unfold RL; trivial
  | k :: r, A, j, h => by
    unfold RL at h ⊢
    obtain ⟨⟨ad, cs, h1, h2, h3, h4⟩, h5⟩ := h
    refine ⟨⟨ad, cs, h1, hs _ h2, fun i u hu => ?_, RT_move hm hs k cs h4⟩, RL_move hm hs r A (j + 1) h5⟩
    have hb : (ad.add (j * 3 + i)).block = ad.block := by unfold Addr.add; split <;> rfl
    rw [World.cell?_of_block (w := w) (by rw [hb]; exact hm _ h2)]
    exact h3 i u hu
end
theorem RL_get {w : World} {S : Nat → Prop} {A : Option Addr} : ∀ (ks : List Sx) (j : Nat), RL w S ks A j → ∀ (i : Nat) (x : Sx), ks[i]? = some x → ∃ ad cs, A = some ad ∧ S ad.block ∧ (∀ q u, cs[q]? = some u → w.cell? (ad.add ((j + i) * 3 + q)) = some u) ∧ RT w S x cs
  | [], _, _, i, x, hx => by simp at hx
  | k :: r, j, h, 0, x, hx => by
    unfold RL at h
    simp at hx
    subst hx
    exact h.1
  | k :: r, j, h, i + 1, x, hx => by
    unfold RL at h
    have := RL_get r (j + 1) h.2 i x (by simpa using hx)
    rw [show j + 1 + i = j + (i + 1) by omega] at this
    exact this
theorem RL_of {w : World} {S : Nat → Prop} {A : Option Addr} : ∀ (ks : List Sx) (j : Nat), (∀ (i : Nat) (x : Sx), ks[i]? = some x → ∃ ad cs, A = some ad ∧ S ad.block ∧ (∀ q u, cs[q]? = some u → w.cell? (ad.add ((j + i) * 3 + q)) = some u) ∧ RT w S x cs) → RL w S ks A j
  | [], _, _ => by unfold RL; trivial
  | k :: r, j, h => by
    unfold RL
    refine ⟨h 0 k rfl, RL_of r (j + 1) fun i x hx => ?_⟩
    rw [show j + 1 + i = j + (i + 1) by omega]
    exact h (i + 1) x (by simpa using hx)
theorem RL_nil (w : World) (S : Nat → Prop) (A : Option Addr) (j : Nat) : RL w S [] A j := by unfold RL; trivial
def Els (w : World) (S : Nat → Prop) (xs : List Sx) (cs : List Value) : Prop := cs.length = xs.length * 3 ∧ ∀ (i : Nat) (x : Sx), xs[i]? = some x → RT w S x ((cs.drop (i * 3)).take 3)
theorem Els_nil (w : World) (S : Nat → Prop) : Els w S [] [] := ⟨rfl, fun i x h => by simp at h⟩
theorem Els_snoc {w : World} {S : Nat → Prop} {xs : List Sx} {cs : List Value} (h : Els w S xs cs) {x : Sx} {c : List Value} (hx : RT w S x c) : Els w S (xs ++ [x]) (cs ++ c) := by
  have hl := RT_len hx
  refine ⟨by simp [h.1, hl]; omega, fun i y hy => ?_⟩
  by_cases hi : i < xs.length
  · rw [List.getElem?_append_left hi] at hy
    have := h.2 i y hy
    rw [List.drop_append_of_le_length (by rw [h.1]; omega), List.take_append_of_le_length (by simp [h.1]; omega)]
    exact this
  · have hi' : i = xs.length := by
      have := (List.getElem?_eq_some_iff.1 hy).1
      simp at this; omega
    subst hi'
    simp at hy
    subst hy
    rw [← h.1, List.drop_left, List.take_of_length_le (by omega)]
    exact hx
theorem Els_move {w w' : World} {S S' : Nat → Prop} {xs : List Sx} {cs : List Value} (h : Els w S xs cs) (hm : ∀ k, S k → w'.heap[k]? = w.heap[k]?) (hs : ∀ k, S k → S' k) : Els w' S' xs cs :=
  ⟨h.1, fun i x hx => RT_move hm hs x _ (h.2 i x hx)⟩
/-- A row of one's own reads as a list of things. -/
theorem RL_own {w : World} {S T : Nat → Prop} {base e n : Nat} {A : Option Addr} {c : Nat} {xs : List Sx} {cs : List Value} (ho : w.ownsRow base e 3 (.slice A n c) n cs) (hn : n = xs.length) (h : Els w S xs cs) (hS : ∀ k, S k → T k) (hT : ∀ k, (Value.slice A n c).ownBlock = some k → T k) : RL w T xs A 0 := by
  refine RL_of xs 0 fun i x hx => ?_
  have hi := (List.getElem?_eq_some_iff.1 hx).1
  rcases ho.2 with ⟨he, h0⟩ | ⟨g, cap, cur, he, _⟩
  · omega
  · simp only [Value.slice.injEq] at he
    obtain ⟨rfl, _, rfl⟩ := he
    refine ⟨_, (cs.drop (i * 3)).take 3, rfl, hT g rfl, fun q u hu => ?_, RT_move (fun _ _ => rfl) hS x _ (h.2 i x hx)⟩
    have hq : q < 3 := by
      have := (List.getElem?_eq_some_iff.1 hu).1
      simp at this; omega
    rw [List.getElem?_take, if_pos hq, List.getElem?_drop] at hu
    have := ho.cells (g := g) rfl ((0 + i) * 3 + q) u (by rw [Nat.zero_add]; exact hu)
    exact this
end Go.Proofs.YthhnhbpmpdminaaGreatDoor
/-
The reader's open lists in memory: a row of rows, no two of which lead to one block. Conditions: none.
-/
namespace Go.Proofs.YthhnhbpmpdminaaGreatDoor
set_option maxRecDepth 4096
open Go.RowKit
/-- One open list: its row, and all that its things lead to, lie in blocks of S. -/
def Lst (W : World) (base : Nat) (S : Nat → Prop) (v : Value) (L : List Sx) : Prop :=
  ∃ cs, W.ownsRow base 49 3 v L.length cs ∧ Els W (fun k => S k ∧ v.ownBlock ≠ some k) L cs ∧ ∀ k, v.ownBlock = some k → S k
structure Stk (W : World) (base : Nat) (vo : Value) (Ls : List (List Sx)) (vs : List Value) (S : Nat → Nat → Prop) : Prop where
  row : W.ownsRow base 47 1 vo Ls.length vs
  len : vs.length = Ls.length
  each : ∀ i L v, Ls[i]? = some L → vs[i]? = some v → Lst W base (S i) v L
  disj : ∀ i j k, i < Ls.length → j < Ls.length → S i k → S j k → i = j
  typed : ∀ i k, i < Ls.length → S i k → base ≤ k ∧ ∃ l, Cells W k 49 l
theorem Stk.lt {W : World} {base : Nat} {vo : Value} {Ls : List (List Sx)} {vs : List Value} {S : Nat → Nat → Prop} (h : Stk W base vo Ls vs S) : ∀ i k, i < Ls.length → S i k → k < W.heap.size := fun i k hi hk => by
  obtain ⟨_, l, hl⟩ := h.typed i k hi hk; exact hl.lt
theorem Lst.move {W W' : World} {base : Nat} {S S' : Nat → Prop} {v : Value} {L : List Sx} (h : Lst W base S v L) (hm : ∀ k, S k → W'.heap[k]? = W.heap[k]?) (hs : ∀ k, S k → S' k) : Lst W' base S' v L := by
  obtain ⟨cs, h1, h2, h3⟩ := h
  refine ⟨cs, ?_, Els_move h2 (fun k hk => hm k hk.1) (fun k hk => ⟨hs k hk.1, hk.2⟩), fun k hk => hs k (h3 k hk)⟩
  refine ⟨h1.1, ?_⟩
  rcases h1.2 with hn | ⟨g, cap, cur, rfl, hb, hgg, rest⟩
  · exact .inl hn
  · exact .inr ⟨g, cap, cur, rfl, hb, by rw [hm g (h3 g rfl)]; exact hgg, rest⟩
/-- What turns no block of the stack's keeps it. -/
theorem Stk.keep {W W' : World} {base : Nat} {vo : Value} {Ls : List (List Sx)} {vs : List Value} {S : Nat → Nat → Prop} (h : Stk W base vo Ls vs S) {D : Nat → Prop} (hm : Mod D W W') (h1 : ∀ k, vo.ownBlock = some k → ¬ D k) (h2 : ∀ i k, i < Ls.length → S i k → ¬ D k) : Stk W' base vo Ls vs S := by
  refine ⟨own_keep h.row hm h1, h.len, fun i L v hL hv => ?_, h.disj, fun i k hi hk => ?_⟩
  · have hi := (List.getElem?_eq_some_iff.1 hL).1
    exact (h.each i L v hL hv).move (fun k hk => hm.keep k (h.lt i k hi hk) (h2 i k hi hk)) (fun _ hk => hk)
  · obtain ⟨hb, l, hl⟩ := h.typed i k hi hk
    exact ⟨hb, l, hl.keep hm (h2 i k hi hk)⟩
/-- Laid into the last list. -/
theorem Stk.lays {W W2 : World} {base bo capo : Nat} {Ls : List (List Sx)} {L : List Sx} {vs : List Value} {S : Nat → Nat → Prop} {v v1 : Value} {cs c : List Value} {x : Sx} {T : Nat → Prop}
    (h : Stk W base (.slice (some ⟨bo, 0, none⟩) (Ls.length + 1) capo) (Ls ++ [L]) vs S)
    (hcs : Els W (fun k => S Ls.length k ∧ v.ownBlock ≠ some k) L cs) (hvS : ∀ k, v.ownBlock = some k → S Ls.length k)
    (hx : RT W T x c) (hT : ∀ k, T k → base ≤ k ∧ (∃ l, Cells W k 49 l) ∧ ∀ i, i < Ls.length + 1 → ¬ S i k)
    (hm : Mod (fun k => v.ownBlock = some k ∨ k = bo) W W2) (hat : v1.ownBlock = v.ownBlock ∨ ∃ b, v1.ownBlock = some b ∧ W.heap.size ≤ b)
    (ho2 : W2.ownsRow base 49 3 v1 (L.length + 1) (cs ++ c)) (hrow : W2.ownsRow base 47 1 (.slice (some ⟨bo, 0, none⟩) (Ls.length + 1) capo) (Ls.length + 1) (vs.set Ls.length v1)) :
    Stk W2 base (.slice (some ⟨bo, 0, none⟩) (Ls.length + 1) capo) (Ls ++ [L ++ [x]]) (vs.set Ls.length v1)
      (fun i k => if i = Ls.length then (S i k ∧ v.ownBlock ≠ some k) ∨ T k ∨ v1.ownBlock = some k else S i k) := by
  have hlen : vs.length = Ls.length + 1 := by rw [h.len]; simp
  obtain ⟨lo, hlo⟩ := own_cells h.row bo rfl
  have hn : Ls.length < (Ls ++ [L]).length := by simp
  have hll1 : (Ls ++ [L ++ [x]]).length = Ls.length + 1 := by simp
  have hother : ∀ i k, i < Ls.length → S i k → ¬ (v.ownBlock = some k ∨ k = bo) := by
    rintro i k hi hk (e | rfl)
    · have := h.disj i Ls.length k (by simp; omega) hn hk (hvS k e); omega
    · obtain ⟨_, l, hl⟩ := h.typed i k (by simp; omega) hk
      exact absurd (hl.ty hlo).1 (by decide)
  have hlast : ∀ k, S Ls.length k → v.ownBlock ≠ some k → ¬ (v.ownBlock = some k ∨ k = bo) := by
    rintro k hk hvk (e | rfl)
    · exact hvk e
    · obtain ⟨_, l, hl⟩ := h.typed _ k hn hk
      exact absurd (hl.ty hlo).1 (by decide)
  have hTo : ∀ k, T k → ¬ (v.ownBlock = some k ∨ k = bo) := by
    rintro k hk (e | rfl)
    · exact (hT k hk).2.2 Ls.length (by omega) (hvS k e)
    · obtain ⟨_, ⟨l, hl⟩, _⟩ := hT k hk
      exact absurd (hl.ty hlo).1 (by decide)
  have hv1lt : ∀ k, v1.ownBlock = some k → base ≤ k ∧ ∃ l, Cells W2 k 49 l := fun k hk => ⟨own_base_le ho2 k hk, own_cells ho2 k hk⟩
  have hfresh : ∀ k, k < W.heap.size → v.ownBlock ≠ some k → v1.ownBlock ≠ some k := by
    intro k hk hvk e
    rcases hat with hat | ⟨b, hb, hle⟩
    · exact hvk (hat ▸ e)
    · rw [hb] at e; injection e with e; omega
  refine ⟨by rw [hll1]; exact hrow, by simp [hlen], fun i L' v' hL' hv' => ?_, fun i j k hi hj hki hkj => ?_, fun i k hi hk => ?_⟩
  · by_cases hi : i = Ls.length
    · subst hi
      have e1 : L' = L ++ [x] := by simpa using hL'.symm
      have e2 : v' = v1 := by
        rw [List.getElem?_set_self (by omega)] at hv'
        exact (Option.some.inj hv').symm
      subst e1 e2
      refine ⟨cs ++ c, by simpa using ho2, ?_, fun k hk => by simp [hk]⟩
      refine Els_snoc (Els_move hcs (fun k hk => hm.keep k (h.lt _ k hn hk.1) (hlast k hk.1 hk.2)) (fun k hk => ⟨by simp [hk.1, hk.2], hfresh k (h.lt _ k hn hk.1) hk.2⟩)) (RT_move (fun k hk => ?_) (fun k hk => ⟨by simp [hk], ?_⟩) x c hx)
      · obtain ⟨_, ⟨l, hl⟩, _⟩ := hT k hk
        exact hm.keep k hl.lt (hTo k hk)
      · obtain ⟨_, ⟨l, hl⟩, _⟩ := hT k hk
        exact hfresh k hl.lt (fun e => hTo k hk (.inl e))
    · have hi2 : i < Ls.length := by
        have := (List.getElem?_eq_some_iff.1 hL').1
        simp at this; omega
      have e1 : (Ls ++ [L])[i]? = some L' := by
        rw [List.getElem?_append_left hi2] at hL' ⊢; exact hL'
      have e2 : vs[i]? = some v' := by
        rw [List.getElem?_set_ne (Ne.symm hi)] at hv'; exact hv'
      refine (h.each i L' v' e1 e2).move (fun k hk => hm.keep k (h.lt i k (by simp; omega) hk) (hother i k hi2 hk)) (fun k hk => by simp [hi, hk])
  · rw [hll1] at hi hj
    have key : ∀ i k, i < Ls.length → S i k → ¬ ((S Ls.length k ∧ v.ownBlock ≠ some k) ∨ T k ∨ v1.ownBlock = some k) := by
      rintro i k hi hk (e | e | e)
      · have := h.disj i Ls.length k (by simp; omega) hn hk e.1; omega
      · exact (hT k e).2.2 i (by omega) hk
      · exact hfresh k (h.lt i k (by simp; omega) hk) (fun e' => hother i k hi hk (.inl e')) e
    by_cases h1 : i = Ls.length <;> by_cases h2 : j = Ls.length
    · omega
    · simp [h1] at hki
      simp [h2] at hkj
      exact absurd hki (key j k (by omega) hkj)
    · simp [h1] at hki
      simp [h2] at hkj
      exact absurd hkj (key i k (by omega) hki)
    · simp [h1] at hki
      simp [h2] at hkj
      exact h.disj i j k (by simp; omega) (by simp; omega) hki hkj
  · rw [hll1] at hi
    have cellsOf : ∀ k, (∃ l, Cells W k 49 l) → ¬ (v.ownBlock = some k ∨ k = bo) → ∃ l, Cells W2 k 49 l := fun k ⟨l, hl⟩ hk => ⟨l, hl.keep hm hk⟩
    by_cases h1 : i = Ls.length
    · simp [h1] at hk
      rcases hk with hk | hk | hk
      · obtain ⟨hb, hl⟩ := h.typed _ k hn hk.1
        exact ⟨hb, cellsOf k hl (hlast k hk.1 hk.2)⟩
      · exact ⟨(hT k hk).1, cellsOf k (hT k hk).2.1 (hTo k hk)⟩
      · exact hv1lt k hk
    · simp [h1] at hk
      obtain ⟨hb, hl⟩ := h.typed i k (by simp; omega) hk
      exact ⟨hb, cellsOf k hl (hother i k (by omega) hk)⟩
/-- One more list, empty. -/
theorem Stk.push {W W1 : World} {base : Nat} {Ls : List (List Sx)} {vs : List Value} {S : Nat → Nat → Prop} {vo vo1 : Value}
    (h : Stk W base vo Ls vs S) (ho : W1.ownsRow base 47 1 vo1 (Ls.length + 1) (vs ++ [.slice none 0 0])) {D : Nat → Prop} (hm : Mod D W W1) (hD : ∀ k, D k → ∃ t l, Cells W k t l ∧ t ≠ 49) :
    Stk W1 base vo1 (Ls ++ [[]]) (vs ++ [.slice none 0 0]) (fun i k => i < Ls.length ∧ S i k) := by
  have hS : ∀ i k, i < Ls.length → S i k → ¬ D k := by
    intro i k hi hk e
    obtain ⟨_, l, hl⟩ := h.typed i k hi hk
    obtain ⟨t, l', hl', ht⟩ := hD k e
    exact ht (hl'.ty hl).1
  refine ⟨by simpa using ho, by simp [h.len], fun i L v hL hv => ?_, fun i j k _ _ hi hj => ?_, fun i k _ hk => ?_⟩
  · by_cases hi : i < Ls.length
    · rw [List.getElem?_append_left hi] at hL
      rw [List.getElem?_append_left (by rw [h.len]; exact hi)] at hv
      exact (h.each i L v hL hv).move (fun k hk => hm.keep k (h.lt i k hi hk) (hS i k hi hk)) (fun k hk => ⟨hi, hk⟩)
    · have hi' : i = Ls.length := by
        have := (List.getElem?_eq_some_iff.1 hL).1
        simp at this; omega
      subst hi'
      have e1 : L = [] := by simpa using hL.symm
      have e2 : v = .slice none 0 0 := by
        rw [← h.len] at hv
        simpa using hv.symm
      subst e1 e2
      exact ⟨[], W1.ownsRow_nil base _ 3, Els_nil _ _, fun k hk => by simp [Value.ownBlock] at hk⟩
  · exact h.disj i j k hi.1 hj.1 hi.2 hj.2
  · obtain ⟨hb, l, hl⟩ := h.typed i k hk.1 hk.2
    exact ⟨hb, l, hl.keep hm (hS i k hk.1 hk.2)⟩
/-- The last list taken off. -/
theorem Stk.pop {W : World} {base n c : Nat} {A : Option Addr} {Ls : List (List Sx)} {L : List Sx} {vs : List Value} {S : Nat → Nat → Prop}
    (h : Stk W base (.slice A n c) (Ls ++ [L]) vs S) : Stk W base (.slice A Ls.length c) Ls (vs.take Ls.length) S := by
  have hl : (Ls ++ [L]).length = Ls.length + 1 := by simp
  have hn : n = Ls.length + 1 := by
    rcases h.row.2 with ⟨_, h0⟩ | ⟨g, cap, cur, he, _⟩
    · rw [hl] at h0; omega
    · simp only [Value.slice.injEq] at he; rw [hl] at he; exact he.2.1
  subst hn
  refine ⟨?_, by simp [h.len], fun i L' v hL hv => ?_, fun i j k hi hj => h.disj i j k (by omega) (by omega), fun i k hi => h.typed i k (by omega)⟩
  · have hr := h.row
    rw [hl] at hr
    refine ⟨by simp [h.len], ?_⟩
    rcases hr.2 with ⟨_, h0⟩ | ⟨g, cap, cur, he, hb, hg, hnc, hcm, hcs, htake⟩
    · omega
    · simp only [Value.slice.injEq] at he
      obtain ⟨rfl, _, rfl⟩ := he
      refine .inr ⟨g, c, cur, rfl, hb, hg, by omega, hcm, hcs, ?_⟩
      rw [← htake, List.take_take]
      congr 1
      omega
  · have hi := (List.getElem?_eq_some_iff.1 hL).1
    refine h.each i L' v (by rw [List.getElem?_append_left hi]; exact hL) ?_
    rw [List.getElem?_take, if_pos hi] at hv
    exact hv
/-- A list's things, read. -/
theorem Lst.reads {W : World} {base : Nat} {S : Nat → Prop} {v : Value} {L : List Sx} (h : Lst W base S v L) : ∃ A c, v = .slice A L.length c ∧ L.length ≤ c ∧ c ≤ 9223372036854775807 ∧ RL W S L A 0 := by
  obtain ⟨cs, h1, h2, h3⟩ := h
  rcases h1.2 with ⟨rfl, h0⟩ | ⟨g, cap, cur, rfl, hb, hgg, hn, hc, _⟩
  · have : L = [] := List.length_eq_zero_iff.1 h0
    subst this
    exact ⟨none, 0, rfl, Nat.le_refl _, by omega, RL_nil _ _ _ _⟩
  · exact ⟨_, cap, rfl, hn, hc, RL_own h1 rfl h2 (fun k hk => hk.1) h3⟩
end Go.Proofs.YthhnhbpmpdminaaGreatDoor
/-
The reader of bracketed texts, as a plain function on bytes. Conditions: none.
-/
namespace Go.Proofs.YthhnhbpmpdminaaGreatDoor
set_option maxRecDepth 4096
def plainB (b : UInt8) : Bool := (97 ≤ b && b ≤ 122) || (65 ≤ b && b ≤ 90) || (48 ≤ b && b ≤ 57) || ([126, 33, 64, 36, 37, 94, 38, 42, 95, 45, 43, 61, 60, 62, 46, 63, 47, 35, 58, 39, 44] : List UInt8).contains b
def blankB (b : UInt8) : Bool := b == 32 || b == 9 || b == 10 || b == 13
def notBar (b : UInt8) : Bool := b != 124 && b != 10
def notEol (b : UInt8) : Bool := b != 10
/-- The first place from i on at which f doesn't hold. -/
def scan (f : UInt8 → Bool) (l : List UInt8) (i : Nat) : Nat := i + ((l.drop i).takeWhile f).length
theorem scan_ge (f : UInt8 → Bool) (l : List UInt8) (i : Nat) : i ≤ scan f l i := Nat.le_add_right _ _
theorem scan_le (f : UInt8 → Bool) (l : List UInt8) (i : Nat) (h : i ≤ l.length) : scan f l i ≤ l.length := by
  unfold scan
  have : ((l.drop i).takeWhile f).length ≤ (l.drop i).length := List.Sublist.length_le (List.takeWhile_sublist _)
  rw [List.length_drop] at this
  omega
theorem scan_end (f : UInt8 → Bool) (l : List UInt8) (i : Nat) (h : l.length ≤ i) : scan f l i = i := by
  unfold scan; rw [List.drop_eq_nil_of_le h]; rfl
theorem scan_yes (f : UInt8 → Bool) (l : List UInt8) (i : Nat) (h : i < l.length) (hf : f l[i] = true) : scan f l i = scan f l (i + 1) := by
  unfold scan; rw [List.drop_eq_getElem_cons h, List.takeWhile_cons, if_pos hf]; simp; omega
theorem scan_no (f : UInt8 → Bool) (l : List UInt8) (i : Nat) (h : i < l.length) (hf : f l[i] = false) : scan f l i = i := by
  unfold scan; rw [List.drop_eq_getElem_cons h, List.takeWhile_cons, if_neg (by simp [hf])]; simp
/-- The reader: how far it is, the innermost open list, the lists about it with the places of their brackets. -/
structure PSt where
  i : Nat
  cur : List Sx
  stk : List (Nat × List Sx)
def cut (t : List UInt8) (i j : Nat) : ByteArray := ⟨((t.drop i).take (j - i)).toArray⟩
def wordSx (w : ByteArray) : Sx := ⟨w, false, []⟩
def listSx (l : List Sx) : Sx := ⟨⟨#[]⟩, true, l⟩
/-- One step, at byte b: the new state, or the place and the number of an error. -/
def pstep (t : List UInt8) (p : PSt) (b : UInt8) : Except (Nat × Nat) PSt :=
  if blankB b then .ok { p with i := p.i + 1 }
  else if b == 59 then .ok { p with i := scan notEol t p.i }
  else if b == 40 then
    if p.stk.length = 200 then .error (p.i, 23) else .ok ⟨p.i + 1, [], (p.i, p.cur) :: p.stk⟩
  else if b == 41 then
    match p.stk with
    | [] => .error (p.i, 21)
    | (_, l) :: r => .ok ⟨p.i + 1, l ++ [listSx p.cur], r⟩
  else if b == 124 then
    if t[scan notBar t (p.i + 1)]? = some 124 then .ok ⟨scan notBar t (p.i + 1) + 1, p.cur ++ [wordSx (cut t p.i (scan notBar t (p.i + 1) + 1))], p.stk⟩
    else .error (p.i, 22)
  else if plainB b then .ok ⟨scan plainB t p.i, p.cur ++ [wordSx (cut t p.i (scan plainB t p.i))], p.stk⟩
  else .error (p.i, 22)
def prun (t : List UInt8) : Nat → PSt → Except (Nat × Nat) PSt
  | 0, p => .ok p
  | n + 1, p => match t[p.i]? with
    | none => .ok p
    | some b => match pstep t p b with
      | .error e => .error e
      | .ok q => prun t n q
def pfin (p : PSt) : Except (Nat × Nat) (List Sx) := match p.stk with
  | (i, _) :: _ => .error (i, 20)
  | [] => .ok p.cur
def parse (t : List UInt8) : Except (Nat × Nat) (List Sx) :=
  if 65536 < t.length then .error (0, 24) else
  match prun t t.length ⟨0, [], []⟩ with
  | .error e => .error e
  | .ok p => pfin p
def PSt.lists (p : PSt) : List (List Sx) := (p.stk.map (·.2)).reverse ++ [p.cur]
def PSt.begs (p : PSt) : List Nat := (p.stk.map (·.1)).reverse
structure PSt.Ok (t : List UInt8) (p : PSt) : Prop where
  le : p.i ≤ t.length
  deep : p.stk.length ≤ 200
  cur : p.cur.length ≤ p.i
  all : ∀ x, x ∈ p.stk → x.2.length ≤ p.i
theorem pstep_ok {t : List UInt8} {p q : PSt} {b : UInt8} (hp : p.Ok t) (hb : t[p.i]? = some b) (h : pstep t p b = .ok q) : q.Ok t ∧ p.i < q.i := by
  have hi : p.i < t.length := (List.getElem?_eq_some_iff.1 hb).1
  have hbi : t[p.i] = b := by
    have := List.getElem?_eq_getElem hi
    rw [this] at hb; exact Option.some.inj hb
  have up : ∀ j, p.i ≤ j → ∀ x, x ∈ p.stk → x.2.length ≤ j := fun j hj x hx => Nat.le_trans (hp.all x hx) hj
  have hc := hp.cur
  unfold pstep at h
  split at h
  · injection h with h; subst h
    exact ⟨⟨hi, hp.deep, by simp; omega, up _ (by simp)⟩, by simp⟩
  split at h
  · rename_i h59
    injection h with h; subst h
    have hs : scan notEol t p.i = scan notEol t (p.i + 1) := scan_yes _ _ _ hi (by rw [hbi, eq_of_beq h59]; rfl)
    have := scan_ge notEol t (p.i + 1)
    refine ⟨⟨scan_le _ _ _ hp.le, hp.deep, ?_, up _ ?_⟩, ?_⟩ <;> simp <;> omega
  split at h
  · split at h
    · cases h
    · injection h with h; subst h
      refine ⟨⟨hi, ?_, by simp, ?_⟩, by simp⟩
      · have := hp.deep; simp; omega
      · intro x hx
        simp at hx
        rcases hx with rfl | hx
        · simp; omega
        · exact up _ (by simp) x hx
  split at h
  · split at h
    · cases h
    · rename_i e l r hst
      injection h with h; subst h
      have h1 := hp.all _ (by rw [hst]; exact List.mem_cons_self ..)
      have h2 := hp.deep
      rw [hst] at h2
      refine ⟨⟨hi, by simp at h2 ⊢; omega, by simp at h1 ⊢; omega, fun x hx => up _ (by simp) x (by rw [hst]; exact List.mem_cons_of_mem _ hx)⟩, by simp⟩
  split at h
  · split at h
    · rename_i hbar
      injection h with h; subst h
      have h1 := scan_ge notBar t (p.i + 1)
      have h2 := (List.getElem?_eq_some_iff.1 hbar).1
      refine ⟨⟨?_, hp.deep, ?_, up _ ?_⟩, ?_⟩ <;> simp <;> omega
    · cases h
  split at h
  · rename_i hpl
    injection h with h; subst h
    have hs : scan plainB t p.i = scan plainB t (p.i + 1) := scan_yes _ _ _ hi (by rw [hbi]; exact hpl)
    have h1 := scan_ge plainB t (p.i + 1)
    refine ⟨⟨scan_le _ _ _ hp.le, hp.deep, ?_, up _ ?_⟩, ?_⟩ <;> simp <;> omega
  · cases h
end Go.Proofs.YthhnhbpmpdminaaGreatDoor
