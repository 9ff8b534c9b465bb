/-
What the reader's rows are to the printed contracts; a list is like itself. Conditions: none.
-/
import Derived.Test.YthhnhbpmpdminaaGreatDoorDrgs
import Derived.Test.YthhnhbpmpdminaaGreatDoorPda
namespace Go.Proofs.YthhnhbpmpdminaaGreatDoor
set_option maxRecDepth 4096
open Go.RowKit Go.Proofs.YthhnhbpmpdminaaGreatDoorW.PrintWords PDimacsParse

theorem ints_K {w : World} {B : Nat} {u : Value} {x : List Int} (h : w.ownsRow B 3 1 u x.length (numsI x)) : (Kd.slice 3 (Kd.int .i64)).K w x [u] := by
  have hR : Reps (fun (p : Int) cs => cs = [Value.int .i64 p]) 1 x (numsI x) := by
    refine ⟨by simp [numsI], fun j p hj => ?_⟩
    rw [Nat.mul_one]
    have hl := (List.getElem?_eq_some_iff.1 hj).1
    have h1 : (numsI x)[j]? = some (.int .i64 p) := by simp [numsI, hj]
    have hl2 : j < (numsI x).length := by simpa [numsI] using hl
    rw [List.drop_eq_getElem_cons hl2, (List.getElem?_eq_some_iff.1 h1).2]
    rfl
  obtain ⟨A, c, rfl, hr⟩ := own_reads_row h hR rfl
  refine ⟨A, c, rfl, ?_, hr⟩
  rcases h.2 with ⟨q, q2⟩ | ⟨g, cap, cur, q, _, _, hc, _⟩
  · rw [q2]; omega
  · cases q; exact hc
theorem PI_C {w : World} {B g : Nat} {st : PS} {vc vo : Value} {hs : List Value} (h : PI w B g st vc vo hs) : ∃ A c, vc = .slice A st.out.length c ∧ st.out.length ≤ c ∧ Kd.C (Kd.slice 3 (Kd.int .i64)) w A st.out.length st.out := by
  have hR : Reps ((Kd.slice 3 (Kd.int .i64)).K w) 1 st.out hs := by
    refine ⟨by have := h.len; omega, fun j p hj => ?_⟩
    rw [Nat.mul_one]
    have hl := (List.getElem?_eq_some_iff.1 hj).1
    have hl2 : j < hs.length := by have := h.len; omega
    rw [List.drop_eq_getElem_cons hl2]
    exact ints_K (h.each j p _ hj (List.getElem?_eq_getElem hl2))
  obtain ⟨A, c, rfl, hr⟩ := own_reads_row h.row hR rfl
  refine ⟨A, c, rfl, ?_, hr⟩
  rcases h.row.2 with ⟨q, q2⟩ | ⟨g, cap, cur, q, _, _, hc, _⟩
  · rw [q2]; omega
  · cases q; exact hc
theorem ints_l0 (x : List Int) (hx : x.length ≤ 9223372036854775807) : ∀ (n k i : Nat), i + n = x.length → n + 1 ≤ k → plaithelp_Ints.l0 k x x (i : Int) = some true := by
  intro n
  induction n with
  | zero =>
    intro k i hi hk
    obtain ⟨k, rfl⟩ : ∃ j, k = j + 1 := ⟨k - 1, by omega⟩
    rw [plaithelp_Ints.l0, if_neg (by omega)]
  | succ n ih =>
    intro k i hi hk
    obtain ⟨k, rfl⟩ : ∃ j, k = j + 1 := ⟨k - 1, by omega⟩
    have e : wrap64 ((i : Int) + 1) = ((i + 1 : Nat) : Int) := w64 (by omega)
    rw [plaithelp_Ints.l0, if_pos (by omega), if_pos (by omega), if_pos (by omega), if_pos rfl, e]
    exact ih k (i + 1) (by omega) (by omega)
theorem ints_f (x : List Int) (hx : x.length ≤ 9223372036854775807) (k : Nat) (hk : x.length + 1 ≤ k) : plaithelp_Ints.f k x x = some true := by
  unfold plaithelp_Ints.f
  rw [if_pos rfl]
  exact ints_l0 x hx x.length k 0 (by omega) hk
def lens (l : List (List Int)) : Nat := (l.map List.length).sum
theorem lens_at : ∀ {l : List (List Int)} {i : Nat} {x : List Int}, l[i]? = some x → x.length ≤ lens l
  | y :: l, 0, x, h => by cases h; simp [lens]
  | y :: l, i + 1, x, h => by
    have := lens_at (l := l) (i := i) (x := x) (by simpa using h)
    simp [lens] at this ⊢; omega
theorem lists_l0 (l : List (List Int)) (hl : l.length ≤ 9223372036854775807) (hs : ∀ x ∈ l, x.length ≤ 9223372036854775807) : ∀ (n k i : Nat), i + n = l.length → n + 2 + lens l ≤ k → plaithelp_Lists.l0 k l l (i : Int) = some true := by
  intro n
  induction n with
  | zero =>
    intro k i hi hk
    obtain ⟨k, rfl⟩ : ∃ j, k = j + 1 := ⟨k - 1, by omega⟩
    rw [plaithelp_Lists.l0, if_neg (by omega)]
  | succ n ih =>
    intro k i hi hk
    obtain ⟨k, rfl⟩ : ∃ j, k = j + 1 := ⟨k - 1, by omega⟩
    have e : wrap64 ((i : Int) + 1) = ((i + 1 : Nat) : Int) := w64 (by omega)
    obtain ⟨x, hx⟩ : ∃ x, l[i]? = some x := ⟨_, List.getElem?_eq_getElem (by omega)⟩
    have hr : rd_L1 l (i : Int) = x := by
      unfold rd_L1
      rw [show ((i : Int)).toNat = i from rfl]
      simp [List.getD, hx]
    have hxl := lens_at hx
    rw [plaithelp_Lists.l0, if_pos (by omega), if_pos (by omega), if_pos (by omega), hr, ints_f x (hs x (List.mem_of_getElem? hx)) k (by omega), Option.bind_some, if_pos rfl, e]
    exact ih k (i + 1) (by omega) (by omega)
theorem lists_f (l : List (List Int)) (hl : l.length ≤ 9223372036854775807) (hs : ∀ x ∈ l, x.length ≤ 9223372036854775807) : ∃ k, plaithelp_Lists.f k l l = some true := by
  refine ⟨l.length + 2 + lens l, ?_⟩
  unfold plaithelp_Lists.f
  rw [if_pos rfl]
  exact lists_l0 l hl hs l.length _ 0 (by omega) (Nat.le_refl _)
theorem C_lens {w : World} {A : Option Addr} {n : Nat} {l : List (List Int)} (h : Kd.C (Kd.slice 3 (Kd.int .i64)) w A n l) : l.length ≤ 9223372036854775807 ∧ ∀ x ∈ l, x.length ≤ 9223372036854775807 := by
  obtain ⟨h1, h2, h3⟩ := h
  refine ⟨by omega, fun x hx => ?_⟩
  obtain ⟨j, hj, rfl⟩ := List.mem_iff_getElem.1 hx
  obtain ⟨ad, _, h4⟩ := h3 (by omega)
  obtain ⟨c, _, ⟨A', c', _, _, h5⟩, _⟩ := h4 j _ (List.getElem?_eq_getElem hj)
  exact h5.2.1
end Go.Proofs.YthhnhbpmpdminaaGreatDoor
