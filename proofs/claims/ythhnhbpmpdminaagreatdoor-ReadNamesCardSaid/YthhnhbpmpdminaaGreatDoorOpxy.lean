/-
A thing handed in, as a tree; a list of things. Conditions: they read as data.
-/
import Derived.Test.YthhnhbpmpdminaaGreatDoorSamy
import Derived.ProofKit
import Derived.Deep.Slices
namespace Go.Proofs.YthhnhbpmpdminaaGreatDoor
set_option maxRecDepth 4096
open Go.ChangeShapes Go.WideShapes Go.RowKit Go.Deep

instance : Inhabited Sx := ⟨⟨⟨#[]⟩, false, []⟩⟩
theorem cellsSexp : Tryz.prog.cellsOf 49 = 3 := by kernel_rfl
theorem cellsSexps : Tryz.prog.cellsOf 47 = 1 := by kernel_rfl
theorem cellsStr : Tryz.prog.cellsOf 9 = 1 := by kernel_rfl
theorem cellsBool : Tryz.prog.cellsOf 4 = 1 := by kernel_rfl

section
variable {H : Type} {enc : TypeId × Value → H} {W : World} {base : Nat} {sp : Nat → Bool} {held : Bool}

theorem slice_of (n : Nat) (ih : ∀ m, m < n → ∀ cs y, DataW.trod enc Tryz.prog W base sp held m 49 cs = some y → ∃ x, RT W (fun k => k < W.heap.size) x cs)
    (cs : List Value) (y : DataW H × List MemPlace) (h : DataW.trod enc Tryz.prog W base sp held n 47 cs = some y) :
    ∃ (L : List Sx) (A : Option Addr) (c : Nat), cs = [.slice A L.length c] ∧ L.length ≤ c ∧ c ≤ 9223372036854775807 ∧ RL W (fun k => k < W.heap.size) L A 0 := by
  rcases DataW.trod_slice Tryz.underlying47 h with ⟨rfl, _⟩ | ⟨a, len, cap, elems, rest, m, rfl, rfl, _, hb, hl, hm, hlen, hel, _, _⟩
  · exact ⟨[], none, 0, rfl, Nat.le_refl _, by omega, RL_nil _ _ _ _⟩
  · have each : ∀ i, i < len → ∃ x : Sx, ∃ cs', (∀ q u, cs'[q]? = some u → W.cell? (a.add (i * 3 + q)) = some u) ∧ a.block < W.heap.size ∧ RT W (fun k => k < W.heap.size) x cs' := by
      intro i hi
      have hh := hel i hi
      rw [List.getElem?_eq_getElem (by omega)] at hh
      obtain ⟨cs', h1, h2⟩ := Option.bind_eq_some_iff.1 hh
      rw [cellsSexp] at h1
      obtain ⟨_, h3, h4⟩ := World.cells?_some h1
      obtain ⟨x, hx⟩ := ih m (by omega) cs' _ h2
      have hcell : ∀ q u, cs'[q]? = some u → W.cell? (a.add (i * 3 + q)) = some u := fun q u hu => by
        have := h4 q (by have := (List.getElem?_eq_some_iff.1 hu).1; omega)
        rw [add_add] at this
        rw [this]; exact hu
      refine ⟨x, cs', hcell, ?_, hx⟩
      have h0 := hcell 0 cs'[0] (List.getElem?_eq_getElem (by omega))
      have := World.block_lt_of_cell? W _ h0
      unfold Addr.add at this
      split at this <;> exact this
    obtain ⟨f, hf⟩ := choose_lt each
    refine ⟨(List.range len).map f, some a, cap, by simp, by simpa using hl, by unfold maxLen at hm; omega, RL_of _ 0 (fun i x hx => ?_)⟩
    have hi : i < len := by have := (List.getElem?_eq_some_iff.1 hx).1; simpa using this
    have hxe : x = f i := by
      rw [List.getElem?_map, List.getElem?_range hi] at hx
      exact (Option.some.inj hx).symm
    obtain ⟨cs', h1, h2, h3⟩ := hf i hi
    exact ⟨a, cs', rfl, h2, by simpa using h1, hxe ▸ h3⟩

theorem tree_of : ∀ (n : Nat) (cs : List Value) (y : DataW H × List MemPlace), DataW.trod enc Tryz.prog W base sp held n 49 cs = some y → ∃ x, RT W (fun k => k < W.heap.size) x cs := by
  intro n
  induction n using Nat.strongRecOn with
  | ind n ih =>
    intro cs y h
    obtain ⟨xs, m, rfl, _, hcl, hxl, hf⟩ := DataW.trod_struct Tryz.underlying49 h
    rw [cellsSexp] at hcl
    match cs, hcl with
    | [v0, v1, v2], _ =>
      have g0 : DataW.trod enc Tryz.prog W base sp held m 9 (([v0, v1, v2].drop 0).take (Tryz.prog.cellsOf 9)) = xs[0]? := hf 0 _ rfl
      have g1 : DataW.trod enc Tryz.prog W base sp held m 4 (([v0, v1, v2].drop 1).take (Tryz.prog.cellsOf 4)) = xs[1]? := hf 1 _ rfl
      have g2 : DataW.trod enc Tryz.prog W base sp held m 47 (([v0, v1, v2].drop 2).take (Tryz.prog.cellsOf 47)) = xs[2]? := hf 2 _ rfl
      have hx3 : xs.length = 3 := hxl
      rw [cellsStr] at g0
      rw [cellsBool] at g1
      rw [cellsSexps] at g2
      rw [List.getElem?_eq_getElem (by omega)] at g0 g1 g2
      obtain ⟨wd, h0, _, hws⟩ := DataW.trod_string Tryz.underlying9 g0
      obtain ⟨b, h1, _⟩ := DataW.trod_bool Tryz.underlying4 g1
      obtain ⟨L, A, c, h2, hc1, hc2, hR⟩ := slice_of m (fun k hk => ih k (by omega)) _ _ g2
      obtain rfl : v0 = .string wd := (List.cons.inj h0).1
      obtain rfl : v1 = .bool b := (List.cons.inj h1).1
      obtain rfl : v2 = .slice A L.length c := (List.cons.inj h2).1
      exact ⟨⟨wd, b, L⟩, RT_mk ⟨wd, b, L⟩ hc1 hc2 (by unfold maxLen at hws; exact hws) hR⟩

theorem trees_of (n : Nat) (cs : List Value) (y : DataW H × List MemPlace) (h : DataW.trod enc Tryz.prog W base sp held n 47 cs = some y) :
    ∃ (L : List Sx) (A : Option Addr) (c : Nat), cs = [.slice A L.length c] ∧ L.length ≤ c ∧ c ≤ 9223372036854775807 ∧ RL W (fun k => k < W.heap.size) L A 0 :=
  slice_of n (fun m _ => tree_of m) cs y h
end
end Go.Proofs.YthhnhbpmpdminaaGreatDoor
