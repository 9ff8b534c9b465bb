/-
The law ReadHides, run once for all its widths. Conditions: none.
-/
import Derived.Test.YthhnhbpmpdminaaGreatDoorAxt
import Derived.Test.YthhnhbpmpdminaaGreatDoorAm
namespace Go.Proofs.YthhnhbpmpdminaaGreatDoor
namespace Ab
open Go.RowKit
set_option maxRecDepth 100000

noncomputable def SH : St where
  P := Tryz.prog
  ext f := match f with
    | 258 => some (flatG Tryz.prog Extern.BytealgIndexByte.indexByte)
    | 76 => some parseG
    | 96 => some opG
    | 68 => some nameG
    | 25 => some knownG
    | 39 => some (placeG 0 60)
    | _ => none
  glob _ := .top
theorem SH_fit {C : Ctx} {k : Int} (hi : C.u 0 = .int .i64 k) (hw : C.w = plV k 60) : Fit SH C := by
  refine ⟨by kernel_rfl, fun g => .top _, fun f g hg => ?_, fun f fn hf hb => ?_⟩
  · unfold SH at hg
    simp only [] at hg
    split at hg
    · cases hg; exact indexR_ok
    · cases hg; exact parse_ok
    · cases hg; exact opG_ok
    · cases hg; exact nameG_ok
    · cases hg; exact knownG_ok
    · cases hg; exact placeG_ok hi hw (by omega) (by omega)
    · cases hg
  · have h := Array.all_eq_true'.1 namesR_ok fn (Array.mem_of_getElem? hf)
    rw [hb] at h
    simpa using h
theorem hides_run : (match (fs SH 100000).call 11 [.unk 0] .empty with
    | some (.bool b, _) => b
    | _ => false) = true := by kernel_rfl
theorem lawHides (k : Int) (W : World) : Calls Tryz.prog 11 #[.int .i64 k] W fun e W' => e = .returned (.bool true) ∧ Below W.heap.size W W' := by
  have h := hides_run
  split at h
  · rename_i b H hb
    subst h
    rw [fs_call] at hb
    refine (closed_anyU (W := W) (w := plV k 60) (u := fun _ => .int .i64 k) (SH_fit rfl rfl) Tryz.func11 rfl (args := [.unk 0]) (args' := #[.int .i64 k]) (.cons _ _ _ _ (.unk 0) .nil) hb).mono fun e W' ⟨v', C', he, hv, _, hB⟩ => ?_
    cases hv
    exact ⟨he, hB⟩
  · cases h
end Ab
end Go.Proofs.YthhnhbpmpdminaaGreatDoor
