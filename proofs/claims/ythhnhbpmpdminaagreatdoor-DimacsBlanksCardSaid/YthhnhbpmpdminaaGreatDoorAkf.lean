/-
The abstract run of this program stands for the model's. Conditions: errors.errorType and the powers of ten are as they are laid.
-/
import Derived.Test.YthhnhbpmpdminaaGreatDoorAke
namespace Go.Proofs.YthhnhbpmpdminaaGreatDoor
namespace Ab
open Go.RowKit
set_option maxRecDepth 4096

theorem RO_of {C : Ctx} {k : Nat} : ∀ (l : List AVal) (o : Nat), (∀ i a, l[i]? = some a → ∃ u, C.cell k (o + i) = some u ∧ VR C a u) → RO C l k o
  | [], o, _ => .nil _ _
  | a :: l, o, h => by
    obtain ⟨u, h1, h2⟩ := h 0 a rfl
    exact .cons _ _ _ _ u h1 h2 (RO_of l (o + 1) fun i b hb => by
      obtain ⟨v, h3, h4⟩ := h (i + 1) b (by simpa using hb)
      exact ⟨v, by rw [show o + 1 + i = o + (i + 1) by omega]; exact h3, h4⟩)
theorem cell_of {W : World} {k i : Nat} {u : Value} (h : W.cell? ⟨k, i, none⟩ = some u) : (C0of W).cell k i = some u := by
  unfold World.cell? at h
  unfold Ctx.cell C0of
  simp only []
  cases hk : W.heap[k]? with
  | none => simp [hk] at h
  | some o =>
    rw [hk] at h
    cases o <;> first | (cases h; done) | simpa using h
/-- The powers of ten, as they are laid. -/
def PW (W : World) : Prop := ∀ n, n < 20 → W.cell? ⟨1, n, none⟩ = some (.int .u64 (Int.ofNat (10 ^ n)))
theorem names_ok : (Tryz.prog.funcs.all fun fn => !(fn.body.isSome && fn.name == "runtime.NumGoroutine")) = true := by kernel_rfl
theorem SK_fit {W : World} (hE : EV W) (hp : PW W) : Fit SK (C0of W) := by
  refine ⟨by kernel_rfl, fun g => ?_, fun f g hg => ?_, fun f fn hf hb => ?_⟩
  · unfold SK
    simp only []
    split
    · refine .rp _ _ _ (RO_of _ _ fun i a hi => ?_)
      rw [List.getElem?_map] at hi
      cases hr : (List.range 20)[i]? with
      | none => rw [hr] at hi; cases hi
      | some n =>
        rw [hr] at hi
        simp only [Option.map_some, Option.some.injEq] at hi
        subst hi
        obtain ⟨h1, h2⟩ := List.getElem?_eq_some_iff.1 hr
        simp only [List.getElem_range] at h2
        simp only [List.length_range] at h1
        subst h2
        rw [Nat.zero_add]
        exact ⟨_, cell_of (hp i h1), .int _ _⟩
    · exact .top _
  · unfold SK at hg
    simp only [] at hg
    split at hg
    · cases hg; exact count_ok
    · cases hg; exact index_ok
    · cases hg; exact noesc_ok
    · cases hg; exact as_ok (cell_of hE)
    · cases hg
  · have h := Array.all_eq_true'.1 names_ok fn (Array.mem_of_getElem? hf)
    rw [hb] at h
    simpa using h
end Ab
end Go.Proofs.YthhnhbpmpdminaaGreatDoor
