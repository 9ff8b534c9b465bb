/-
The law ReadMany, run for some operators. Conditions: none.
-/
import Derived.Test.YthhnhbpmpdminaaGreatDoorAkm
namespace Go.Proofs.YthhnhbpmpdminaaGreatDoor
namespace Ab
set_option maxRecDepth 100000
theorem many_true_3 : manyRun true 6 3 = true := by kernel_rfl
theorem many_true_4 : manyRun true 6 4 = true := by kernel_rfl
theorem many_true_5 : manyRun true 6 5 = true := by kernel_rfl
end Ab
end Go.Proofs.YthhnhbpmpdminaaGreatDoor
