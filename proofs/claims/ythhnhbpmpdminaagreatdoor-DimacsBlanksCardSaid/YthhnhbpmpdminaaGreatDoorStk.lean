/-
The reader's open lists in memory: a row of rows, no two of which lead to one block. Conditions: none.
-/
import Derived.Test.YthhnhbpmpdminaaGreatDoorSx
namespace Go.Proofs.YthhnhbpmpdminaaGreatDoor
set_option maxRecDepth 4096
open Go.RowKit

/-- One open list: its row, and all that its things lead to, lie in blocks of S. -/
def Lst (W : World) (base : Nat) (S : Nat → Prop) (v : Value) (L : List Sx) : Prop :=
  ∃ cs, W.ownsRow base 49 3 v L.length cs ∧ Els W (fun k => S k ∧ v.ownBlock ≠ some k) L cs ∧ ∀ k, v.ownBlock = some k → S k

structure Stk (W : World) (base : Nat) (vo : Value) (Ls : List (List Sx)) (vs : List Value) (S : Nat → Nat → Prop) : Prop where
  row : W.ownsRow base 47 1 vo Ls.length vs
  len : vs.length = Ls.length
  each : ∀ i L v, Ls[i]? = some L → vs[i]? = some v → Lst W base (S i) v L
  disj : ∀ i j k, i < Ls.length → j < Ls.length → S i k → S j k → i = j
  typed : ∀ i k, i < Ls.length → S i k → base ≤ k ∧ ∃ l, Cells W k 49 l

theorem Stk.lt {W : World} {base : Nat} {vo : Value} {Ls : List (List Sx)} {vs : List Value} {S : Nat → Nat → Prop} (h : Stk W base vo Ls vs S) : ∀ i k, i < Ls.length → S i k → k < W.heap.size := fun i k hi hk => by
  obtain ⟨_, l, hl⟩ := h.typed i k hi hk; exact hl.lt

theorem Lst.move {W W' : World} {base : Nat} {S S' : Nat → Prop} {v : Value} {L : List Sx} (h : Lst W base S v L) (hm : ∀ k, S k → W'.heap[k]? = W.heap[k]?) (hs : ∀ k, S k → S' k) : Lst W' base S' v L := by
  obtain ⟨cs, h1, h2, h3⟩ := h
  refine ⟨cs, ?_, Els_move h2 (fun k hk => hm k hk.1) (fun k hk => ⟨hs k hk.1, hk.2⟩), fun k hk => hs k (h3 k hk)⟩
  refine ⟨h1.1, ?_⟩
  rcases h1.2 with hn | ⟨g, cap, cur, rfl, hb, hgg, rest⟩
  · exact .inl hn
  · exact .inr ⟨g, cap, cur, rfl, hb, by rw [hm g (h3 g rfl)]; exact hgg, rest⟩

/-- What turns no block of the stack's keeps it. -/
theorem Stk.keep {W W' : World} {base : Nat} {vo : Value} {Ls : List (List Sx)} {vs : List Value} {S : Nat → Nat → Prop} (h : Stk W base vo Ls vs S) {D : Nat → Prop} (hm : Mod D W W') (h1 : ∀ k, vo.ownBlock = some k → ¬ D k) (h2 : ∀ i k, i < Ls.length → S i k → ¬ D k) : Stk W' base vo Ls vs S := by
  refine ⟨own_keep h.row hm h1, h.len, fun i L v hL hv => ?_, h.disj, fun i k hi hk => ?_⟩
  · have hi := (List.getElem?_eq_some_iff.1 hL).1
    exact (h.each i L v hL hv).move (fun k hk => hm.keep k (h.lt i k hi hk) (h2 i k hi hk)) (fun _ hk => hk)
  · obtain ⟨hb, l, hl⟩ := h.typed i k hi hk
    exact ⟨hb, l, hl.keep hm (h2 i k hi hk)⟩

/-- Where the blocks that are turned are of other types. -/
theorem Stk.keepT {W W' : World} {base : Nat} {vo : Value} {Ls : List (List Sx)} {vs : List Value} {S : Nat → Nat → Prop} (h : Stk W base vo Ls vs S) {D : Nat → Prop} (hm : Mod D W W')
    (hD : ∀ k, k < W.heap.size → D k → ∃ t l, Cells W k t l ∧ t ≠ 49 ∧ t ≠ 47) : Stk W' base vo Ls vs S := by
  refine h.keep hm (fun k hk hd => ?_) (fun i k hi hk hd => ?_)
  · obtain ⟨l, hl⟩ := own_cells h.row k hk
    obtain ⟨t, l', hl', _, ht⟩ := hD k hl.lt hd
    exact ht (hl'.ty hl).1
  · obtain ⟨_, l, hl⟩ := h.typed i k hi hk
    obtain ⟨t, l', hl', ht, _⟩ := hD k hl.lt hd
    exact ht (hl'.ty hl).1

/-- Laid into the last list. -/
theorem Stk.lays {W W2 : World} {base bo capo : Nat} {Ls : List (List Sx)} {L : List Sx} {vs : List Value} {S : Nat → Nat → Prop} {v v1 : Value} {cs c : List Value} {x : Sx} {T : Nat → Prop}
    (h : Stk W base (.slice (some ⟨bo, 0, none⟩) (Ls.length + 1) capo) (Ls ++ [L]) vs S)
    (hcs : Els W (fun k => S Ls.length k ∧ v.ownBlock ≠ some k) L cs) (hvS : ∀ k, v.ownBlock = some k → S Ls.length k)
    (hx : RT W T x c) (hT : ∀ k, T k → base ≤ k ∧ (∃ l, Cells W k 49 l) ∧ ∀ i, i < Ls.length + 1 → ¬ S i k)
    (hm : Mod (fun k => v.ownBlock = some k ∨ k = bo) W W2) (hat : v1.ownBlock = v.ownBlock ∨ ∃ b, v1.ownBlock = some b ∧ W.heap.size ≤ b)
    (ho2 : W2.ownsRow base 49 3 v1 (L.length + 1) (cs ++ c)) (hrow : W2.ownsRow base 47 1 (.slice (some ⟨bo, 0, none⟩) (Ls.length + 1) capo) (Ls.length + 1) (vs.set Ls.length v1)) :
    Stk W2 base (.slice (some ⟨bo, 0, none⟩) (Ls.length + 1) capo) (Ls ++ [L ++ [x]]) (vs.set Ls.length v1)
      (fun i k => if i = Ls.length then (S i k ∧ v.ownBlock ≠ some k) ∨ T k ∨ v1.ownBlock = some k else S i k) := by
  have hlen : vs.length = Ls.length + 1 := by rw [h.len]; simp
  obtain ⟨lo, hlo⟩ := own_cells h.row bo rfl
  have hn : Ls.length < (Ls ++ [L]).length := by simp
  have hll1 : (Ls ++ [L ++ [x]]).length = Ls.length + 1 := by simp
  have hother : ∀ i k, i < Ls.length → S i k → ¬ (v.ownBlock = some k ∨ k = bo) := by
    rintro i k hi hk (e | rfl)
    · have := h.disj i Ls.length k (by simp; omega) hn hk (hvS k e); omega
    · obtain ⟨_, l, hl⟩ := h.typed i k (by simp; omega) hk
      exact absurd (hl.ty hlo).1 (by decide)
  have hlast : ∀ k, S Ls.length k → v.ownBlock ≠ some k → ¬ (v.ownBlock = some k ∨ k = bo) := by
    rintro k hk hvk (e | rfl)
    · exact hvk e
    · obtain ⟨_, l, hl⟩ := h.typed _ k hn hk
      exact absurd (hl.ty hlo).1 (by decide)
  have hTo : ∀ k, T k → ¬ (v.ownBlock = some k ∨ k = bo) := by
    rintro k hk (e | rfl)
    · exact (hT k hk).2.2 Ls.length (by omega) (hvS k e)
    · obtain ⟨_, ⟨l, hl⟩, _⟩ := hT k hk
      exact absurd (hl.ty hlo).1 (by decide)
  have hv1lt : ∀ k, v1.ownBlock = some k → base ≤ k ∧ ∃ l, Cells W2 k 49 l := fun k hk => ⟨own_base_le ho2 k hk, own_cells ho2 k hk⟩
  have hfresh : ∀ k, k < W.heap.size → v.ownBlock ≠ some k → v1.ownBlock ≠ some k := by
    intro k hk hvk e
    rcases hat with hat | ⟨b, hb, hle⟩
    · exact hvk (hat ▸ e)
    · rw [hb] at e; injection e with e; omega
  refine ⟨by rw [hll1]; exact hrow, by simp [hlen], fun i L' v' hL' hv' => ?_, fun i j k hi hj hki hkj => ?_, fun i k hi hk => ?_⟩
  · by_cases hi : i = Ls.length
    · subst hi
      have e1 : L' = L ++ [x] := by simpa using hL'.symm
      have e2 : v' = v1 := by
        rw [List.getElem?_set_self (by omega)] at hv'
        exact (Option.some.inj hv').symm
      subst e1 e2
      refine ⟨cs ++ c, by simpa using ho2, ?_, fun k hk => by simp [hk]⟩
      refine Els_snoc (Els_move hcs (fun k hk => hm.keep k (h.lt _ k hn hk.1) (hlast k hk.1 hk.2)) (fun k hk => ⟨by simp [hk.1, hk.2], hfresh k (h.lt _ k hn hk.1) hk.2⟩)) (RT_move (fun k hk => ?_) (fun k hk => ⟨by simp [hk], ?_⟩) x c hx)
      · obtain ⟨_, ⟨l, hl⟩, _⟩ := hT k hk
        exact hm.keep k hl.lt (hTo k hk)
      · obtain ⟨_, ⟨l, hl⟩, _⟩ := hT k hk
        exact hfresh k hl.lt (fun e => hTo k hk (.inl e))
    · have hi2 : i < Ls.length := by
        have := (List.getElem?_eq_some_iff.1 hL').1
        simp at this; omega
      have e1 : (Ls ++ [L])[i]? = some L' := by
        rw [List.getElem?_append_left hi2] at hL' ⊢; exact hL'
      have e2 : vs[i]? = some v' := by
        rw [List.getElem?_set_ne (Ne.symm hi)] at hv'; exact hv'
      refine (h.each i L' v' e1 e2).move (fun k hk => hm.keep k (h.lt i k (by simp; omega) hk) (hother i k hi2 hk)) (fun k hk => by simp [hi, hk])
  · rw [hll1] at hi hj
    have key : ∀ i k, i < Ls.length → S i k → ¬ ((S Ls.length k ∧ v.ownBlock ≠ some k) ∨ T k ∨ v1.ownBlock = some k) := by
      rintro i k hi hk (e | e | e)
      · have := h.disj i Ls.length k (by simp; omega) hn hk e.1; omega
      · exact (hT k e).2.2 i (by omega) hk
      · exact hfresh k (h.lt i k (by simp; omega) hk) (fun e' => hother i k hi hk (.inl e')) e
    by_cases h1 : i = Ls.length <;> by_cases h2 : j = Ls.length
    · omega
    · simp [h1] at hki
      simp [h2] at hkj
      exact absurd hki (key j k (by omega) hkj)
    · simp [h1] at hki
      simp [h2] at hkj
      exact absurd hkj (key i k (by omega) hki)
    · simp [h1] at hki
      simp [h2] at hkj
      exact h.disj i j k (by simp; omega) (by simp; omega) hki hkj
  · rw [hll1] at hi
    have cellsOf : ∀ k, (∃ l, Cells W k 49 l) → ¬ (v.ownBlock = some k ∨ k = bo) → ∃ l, Cells W2 k 49 l := fun k ⟨l, hl⟩ hk => ⟨l, hl.keep hm hk⟩
    by_cases h1 : i = Ls.length
    · simp [h1] at hk
      rcases hk with hk | hk | hk
      · obtain ⟨hb, hl⟩ := h.typed _ k hn hk.1
        exact ⟨hb, cellsOf k hl (hlast k hk.1 hk.2)⟩
      · exact ⟨(hT k hk).1, cellsOf k (hT k hk).2.1 (hTo k hk)⟩
      · exact hv1lt k hk
    · simp [h1] at hk
      obtain ⟨hb, hl⟩ := h.typed i k (by simp; omega) hk
      exact ⟨hb, cellsOf k hl (hother i k (by omega) hk)⟩

/-- One more list, empty. -/
theorem Stk.push {W W1 : World} {base : Nat} {Ls : List (List Sx)} {vs : List Value} {S : Nat → Nat → Prop} {vo vo1 : Value}
    (h : Stk W base vo Ls vs S) (ho : W1.ownsRow base 47 1 vo1 (Ls.length + 1) (vs ++ [.slice none 0 0])) {D : Nat → Prop} (hm : Mod D W W1) (hD : ∀ k, D k → ∃ t l, Cells W k t l ∧ t ≠ 49) :
    Stk W1 base vo1 (Ls ++ [[]]) (vs ++ [.slice none 0 0]) (fun i k => i < Ls.length ∧ S i k) := by
  have hS : ∀ i k, i < Ls.length → S i k → ¬ D k := by
    intro i k hi hk e
    obtain ⟨_, l, hl⟩ := h.typed i k hi hk
    obtain ⟨t, l', hl', ht⟩ := hD k e
    exact ht (hl'.ty hl).1
  refine ⟨by simpa using ho, by simp [h.len], fun i L v hL hv => ?_, fun i j k _ _ hi hj => ?_, fun i k _ hk => ?_⟩
  · by_cases hi : i < Ls.length
    · rw [List.getElem?_append_left hi] at hL
      rw [List.getElem?_append_left (by rw [h.len]; exact hi)] at hv
      exact (h.each i L v hL hv).move (fun k hk => hm.keep k (h.lt i k hi hk) (hS i k hi hk)) (fun k hk => ⟨hi, hk⟩)
    · have hi' : i = Ls.length := by
        have := (List.getElem?_eq_some_iff.1 hL).1
        simp at this; omega
      subst hi'
      have e1 : L = [] := by simpa using hL.symm
      have e2 : v = .slice none 0 0 := by
        rw [← h.len] at hv
        simpa using hv.symm
      subst e1 e2
      exact ⟨[], W1.ownsRow_nil base _ 3, Els_nil _ _, fun k hk => by simp [Value.ownBlock] at hk⟩
  · exact h.disj i j k hi.1 hj.1 hi.2 hj.2
  · obtain ⟨hb, l, hl⟩ := h.typed i k hk.1 hk.2
    exact ⟨hb, l, hl.keep hm (hS i k hk.1 hk.2)⟩

/-- The last list taken off. -/
theorem Stk.pop {W : World} {base n c : Nat} {A : Option Addr} {Ls : List (List Sx)} {L : List Sx} {vs : List Value} {S : Nat → Nat → Prop}
    (h : Stk W base (.slice A n c) (Ls ++ [L]) vs S) : Stk W base (.slice A Ls.length c) Ls (vs.take Ls.length) S := by
  have hl : (Ls ++ [L]).length = Ls.length + 1 := by simp
  have hn : n = Ls.length + 1 := by
    rcases h.row.2 with ⟨_, h0⟩ | ⟨g, cap, cur, he, _⟩
    · rw [hl] at h0; omega
    · simp only [Value.slice.injEq] at he; rw [hl] at he; exact he.2.1
  subst hn
  refine ⟨?_, by simp [h.len], fun i L' v hL hv => ?_, fun i j k hi hj => h.disj i j k (by omega) (by omega), fun i k hi => h.typed i k (by omega)⟩
  · have hr := h.row
    rw [hl] at hr
    refine ⟨by simp [h.len], ?_⟩
    rcases hr.2 with ⟨_, h0⟩ | ⟨g, cap, cur, he, hb, hg, hnc, hcm, hcs, htake⟩
    · omega
    · simp only [Value.slice.injEq] at he
      obtain ⟨rfl, _, rfl⟩ := he
      refine .inr ⟨g, c, cur, rfl, hb, hg, by omega, hcm, hcs, ?_⟩
      rw [← htake, List.take_take]
      congr 1
      omega
  · have hi := (List.getElem?_eq_some_iff.1 hL).1
    refine h.each i L' v (by rw [List.getElem?_append_left hi]; exact hL) ?_
    rw [List.getElem?_take, if_pos hi] at hv
    exact hv

/-- A list's things, read. -/
theorem Lst.reads {W : World} {base : Nat} {S : Nat → Prop} {v : Value} {L : List Sx} (h : Lst W base S v L) : ∃ A c, v = .slice A L.length c ∧ L.length ≤ c ∧ c ≤ 9223372036854775807 ∧ RL W S L A 0 := by
  obtain ⟨cs, h1, h2, h3⟩ := h
  rcases h1.2 with ⟨rfl, h0⟩ | ⟨g, cap, cur, rfl, hb, hgg, hn, hc, _⟩
  · have : L = [] := List.length_eq_zero_iff.1 h0
    subst this
    exact ⟨none, 0, rfl, Nat.le_refl _, by omega, RL_nil _ _ _ _⟩
  · exact ⟨_, cap, rfl, hn, hc, RL_own h1 rfl h2 (fun k hk => hk.1) h3⟩
end Go.Proofs.YthhnhbpmpdminaaGreatDoor
