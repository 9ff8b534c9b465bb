/-
The law ReadMany, run for some operators. Conditions: none.
-/
import Derived.Test.YthhnhbpmpdminaaGreatDoorAkm
namespace Go.Proofs.YthhnhbpmpdminaaGreatDoor
namespace Ab
set_option maxRecDepth 100000
theorem many_false_0 : manyRun false 3 0 = true := by kernel_rfl
theorem many_false_1 : manyRun false 3 1 = true := by kernel_rfl
theorem many_false_2 : manyRun false 3 2 = true := by kernel_rfl
end Ab
end Go.Proofs.YthhnhbpmpdminaaGreatDoor
