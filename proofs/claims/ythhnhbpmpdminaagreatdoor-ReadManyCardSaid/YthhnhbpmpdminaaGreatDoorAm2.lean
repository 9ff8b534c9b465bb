/-
The law ReadMany, run for some operators. Conditions: none.
-/
import Derived.Test.YthhnhbpmpdminaaGreatDoorAkm
namespace Go.Proofs.YthhnhbpmpdminaaGreatDoor
namespace Ab
set_option maxRecDepth 100000
theorem many_true_0 : manyRun true 6 0 = true := by kernel_rfl
theorem many_true_1 : manyRun true 6 1 = true := by kernel_rfl
theorem many_true_2 : manyRun true 6 2 = true := by kernel_rfl
end Ab
end Go.Proofs.YthhnhbpmpdminaaGreatDoor
