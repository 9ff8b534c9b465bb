/-
Bracketed things as trees, and how they lie in memory. Conditions: none.
-/
import Derived.Test.YthhnhbpmpdminaaGreatDoorMem
namespace Go.Proofs.YthhnhbpmpdminaaGreatDoor
set_option maxRecDepth 4096
open Go.RowKit

structure Sx where
  word : ByteArray
  list : Bool
  kids : List Sx

/- A thing's three cells: its kids lie in blocks of S. -/
mutual
def RT (w : World) (S : Nat → Prop) : Sx → List Value → Prop
  | ⟨wd, l, ks⟩, cs => ∃ A c, cs = [.string wd, .bool l, .slice A ks.length c] ∧ ks.length ≤ c ∧ c ≤ 9223372036854775807 ∧ wd.size ≤ 9223372036854775807 ∧ RL w S ks A 0
def RL (w : World) (S : Nat → Prop) : List Sx → Option Addr → Nat → Prop
  | [], _, _ => True
  | k :: r, A, j => (∃ ad cs, A = some ad ∧ S ad.block ∧ (∀ i u, cs[i]? = some u → w.cell? (ad.add (j * 3 + i)) = some u) ∧ RT w S k cs) ∧ RL w S r A (j + 1)
end

theorem RT_cells {w : World} {S : Nat → Prop} {x : Sx} {cs : List Value} (h : RT w S x cs) : ∃ A c, cs = [.string x.word, .bool x.list, .slice A x.kids.length c] ∧ x.kids.length ≤ c ∧ c ≤ 9223372036854775807 ∧ x.word.size ≤ 9223372036854775807 ∧ RL w S x.kids A 0 := by
  cases x; unfold RT at h; exact h
theorem RT_mk {w : World} {S : Nat → Prop} (x : Sx) {A : Option Addr} {c : Nat} (h1 : x.kids.length ≤ c) (h2 : c ≤ 9223372036854775807) (h3 : x.word.size ≤ 9223372036854775807) (h4 : RL w S x.kids A 0) : RT w S x [.string x.word, .bool x.list, .slice A x.kids.length c] := by
  cases x; unfold RT; exact ⟨A, c, rfl, h1, h2, h3, h4⟩
theorem RT_len {w : World} {S : Nat → Prop} {x : Sx} {cs : List Value} (h : RT w S x cs) : cs.length = 3 := by
  obtain ⟨A, c, rfl, _⟩ := RT_cells h; rfl
theorem RT_one {w : World} {S : Nat → Prop} {x : Sx} {cs : List Value} (h : RT w S x cs) : ∀ u ∈ cs, u.oneCell' = true := by
  obtain ⟨A, c, rfl, _⟩ := RT_cells h
  intro u hu
  simp at hu
  rcases hu with rfl | rfl | rfl <;> rfl

mutual
theorem RT_move {w w' : World} {S S' : Nat → Prop} (hm : ∀ k, S k → w'.heap[k]? = w.heap[k]?) (hs : ∀ k, S k → S' k) : ∀ (x : Sx) (cs : List Value), RT w S x cs → RT w' S' x cs
  | ⟨wd, l, ks⟩, cs, h => by
    unfold RT at h ⊢
    obtain ⟨A, c, h1, h2, h3, h4, h5⟩ := h
    exact ⟨A, c, h1, h2, h3, h4, RL_move hm hs ks A 0 h5⟩
theorem RL_move {w w' : World} {S S' : Nat → Prop} (hm : ∀ k, S k → w'.heap[k]? = w.heap[k]?) (hs : ∀ k, S k → S' k) : ∀ (ks : List Sx) (A : Option Addr) (j : Nat), RL w S ks A j → RL w' S' ks A j
  | [], _, _, _ => by unfold RL; trivial
  | k :: r, A, j, h => by
    unfold RL at h ⊢
    obtain ⟨⟨ad, cs, h1, h2, h3, h4⟩, h5⟩ := h
    refine ⟨⟨ad, cs, h1, hs _ h2, fun i u hu => ?_, RT_move hm hs k cs h4⟩, RL_move hm hs r A (j + 1) h5⟩
    have hb : (ad.add (j * 3 + i)).block = ad.block := by unfold Addr.add; split <;> rfl
    rw [World.cell?_of_block (w := w) (by rw [hb]; exact hm _ h2)]
    exact h3 i u hu
end

theorem RL_get {w : World} {S : Nat → Prop} {A : Option Addr} : ∀ (ks : List Sx) (j : Nat), RL w S ks A j → ∀ (i : Nat) (x : Sx), ks[i]? = some x → ∃ ad cs, A = some ad ∧ S ad.block ∧ (∀ q u, cs[q]? = some u → w.cell? (ad.add ((j + i) * 3 + q)) = some u) ∧ RT w S x cs
  | [], _, _, i, x, hx => by simp at hx
  | k :: r, j, h, 0, x, hx => by
    unfold RL at h
    simp at hx
    subst hx
    exact h.1
  | k :: r, j, h, i + 1, x, hx => by
    unfold RL at h
    have := RL_get r (j + 1) h.2 i x (by simpa using hx)
    rw [show j + 1 + i = j + (i + 1) by omega] at this
    exact this
theorem RL_of {w : World} {S : Nat → Prop} {A : Option Addr} : ∀ (ks : List Sx) (j : Nat), (∀ (i : Nat) (x : Sx), ks[i]? = some x → ∃ ad cs, A = some ad ∧ S ad.block ∧ (∀ q u, cs[q]? = some u → w.cell? (ad.add ((j + i) * 3 + q)) = some u) ∧ RT w S x cs) → RL w S ks A j
  | [], _, _ => by unfold RL; trivial
  | k :: r, j, h => by
    unfold RL
    refine ⟨h 0 k rfl, RL_of r (j + 1) fun i x hx => ?_⟩
    rw [show j + 1 + i = j + (i + 1) by omega]
    exact h (i + 1) x (by simpa using hx)
theorem RL_nil (w : World) (S : Nat → Prop) (A : Option Addr) (j : Nat) : RL w S [] A j := by unfold RL; trivial

/- Cells one behind the other, element by element. -/
def Els (w : World) (S : Nat → Prop) (xs : List Sx) (cs : List Value) : Prop := cs.length = xs.length * 3 ∧ ∀ (i : Nat) (x : Sx), xs[i]? = some x → RT w S x ((cs.drop (i * 3)).take 3)
theorem Els_nil (w : World) (S : Nat → Prop) : Els w S [] [] := ⟨rfl, fun i x h => by simp at h⟩
theorem Els_snoc {w : World} {S : Nat → Prop} {xs : List Sx} {cs : List Value} (h : Els w S xs cs) {x : Sx} {c : List Value} (hx : RT w S x c) : Els w S (xs ++ [x]) (cs ++ c) := by
  have hl := RT_len hx
  refine ⟨by simp [h.1, hl]; omega, fun i y hy => ?_⟩
  by_cases hi : i < xs.length
  · rw [List.getElem?_append_left hi] at hy
    have := h.2 i y hy
    rw [List.drop_append_of_le_length (by rw [h.1]; omega), List.take_append_of_le_length (by simp [h.1]; omega)]
    exact this
  · have hi' : i = xs.length := by
      have := (List.getElem?_eq_some_iff.1 hy).1
      simp at this; omega
    subst hi'
    simp at hy
    subst hy
    rw [← h.1, List.drop_left, List.take_of_length_le (by omega)]
    exact hx
theorem Els_move {w w' : World} {S S' : Nat → Prop} {xs : List Sx} {cs : List Value} (h : Els w S xs cs) (hm : ∀ k, S k → w'.heap[k]? = w.heap[k]?) (hs : ∀ k, S k → S' k) : Els w' S' xs cs :=
  ⟨h.1, fun i x hx => RT_move hm hs x _ (h.2 i x hx)⟩
/-- A row of one's own reads as a list of things. -/
theorem RL_own {w : World} {S T : Nat → Prop} {base e n : Nat} {A : Option Addr} {c : Nat} {xs : List Sx} {cs : List Value} (ho : w.ownsRow base e 3 (.slice A n c) n cs) (hn : n = xs.length) (h : Els w S xs cs) (hS : ∀ k, S k → T k) (hT : ∀ k, (Value.slice A n c).ownBlock = some k → T k) : RL w T xs A 0 := by
  refine RL_of xs 0 fun i x hx => ?_
  have hi := (List.getElem?_eq_some_iff.1 hx).1
  rcases ho.2 with ⟨he, h0⟩ | ⟨g, cap, cur, he, _⟩
  · omega
  · simp only [Value.slice.injEq] at he
    obtain ⟨rfl, _, rfl⟩ := he
    refine ⟨_, (cs.drop (i * 3)).take 3, rfl, hT g rfl, fun q u hu => ?_, RT_move (fun _ _ => rfl) hS x _ (h.2 i x hx)⟩
    have hq : q < 3 := by
      have := (List.getElem?_eq_some_iff.1 hu).1
      simp at this; omega
    rw [List.getElem?_take, if_pos hq, List.getElem?_drop] at hu
    have := ho.cells (g := g) rfl ((0 + i) * 3 + q) u (by rw [Nat.zero_add]; exact hu)
    exact this
end Go.Proofs.YthhnhbpmpdminaaGreatDoor
