/-
The abstract run for the statements of layer 5 stands for the model's, and their example. Conditions: none.
-/
import Derived.Test.YthhnhbpmpdminaaGreatDoorAm
import Derived.Test.YthhnhbpmpdminaaGreatDoorApr
namespace Go.Proofs.YthhnhbpmpdminaaGreatDoor
namespace Ab
open Go.RowKit
set_option maxRecDepth 100000

noncomputable def SR : St where
  P := Tryz.prog
  ext f := match f with
    | 258 => some (flatG Tryz.prog Extern.BytealgIndexByte.indexByte)
    | 76 => some parseG
    | _ => none
  glob _ := .top
theorem indexR_ok {C0 : Ctx} : ExtOk Tryz.prog C0 258 (flatG Tryz.prog Extern.BytealgIndexByte.indexByte) :=
  flat_ok Tryz.func258 (by kernel_rfl) (by kernel_rfl) (by kernel_rfl) (by kernel_rfl)
theorem namesR_ok : (Tryz.prog.funcs.all fun fn => !(fn.body.isSome && fn.name == "runtime.NumGoroutine")) = true := by kernel_rfl
theorem SR_fit (C : Ctx) : Fit SR C := by
  refine ⟨by kernel_rfl, fun g => .top _, fun f g hg => ?_, fun f fn hf hb => ?_⟩
  · unfold SR at hg
    simp only [] at hg
    split at hg
    · cases hg; exact indexR_ok
    · cases hg; exact parse_ok
    · cases hg
  · have h := Array.all_eq_true'.1 namesR_ok fn (Array.mem_of_getElem? hf)
    rw [hb] at h
    simpa using h
theorem known5_run : (match (fs SR 100000).call 25 [] .empty with
    | some (.bool b, _) => b
    | _ => false) = true := by kernel_rfl
theorem known5 (W : World) : Calls Tryz.prog 25 #[] W fun e W' => e = .returned (.bool true) ∧ Below W.heap.size W W' := by
  have h := known5_run
  split at h
  · rename_i b H hb
    subst h
    rw [fs_call] at hb
    exact closed_call (SR_fit _) Tryz.func25 rfl hb
  · cases h
end Ab
end Go.Proofs.YthhnhbpmpdminaaGreatDoor
