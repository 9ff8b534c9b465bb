/-
The law ReadMany, told true of all numbers. Conditions: none.
-/
import Derived.Test.YthhnhbpmpdminaaGreatDoorAm1
import Derived.Test.YthhnhbpmpdminaaGreatDoorAm2
import Derived.Test.YthhnhbpmpdminaaGreatDoorAm3
namespace Go.Proofs.YthhnhbpmpdminaaGreatDoor
namespace Ab
open Go.RowKit
set_option maxRecDepth 4096

theorem lawMany (s k : Int) (W : World) : Calls Tryz.prog 9 #[.int .i64 s, .int .i64 k] W fun e W' => e = .returned (.bool true) ∧ Below W.heap.size W W' := by
  by_cases h : plV s 20 = 0
  · have hr := plV_range k 3 (by omega)
    have hj : plV k 3 = (0 : Nat) ∨ plV k 3 = (1 : Nat) ∨ plV k 3 = (2 : Nat) := by omega
    rcases hj with hj | hj | hj
    · exact many_of_run W many_false_0 h (by omega) hj
    · exact many_of_run W many_false_1 h (by omega) hj
    · exact many_of_run W many_false_2 h (by omega) hj
  · have hr := plV_range k 6 (by omega)
    have hj : plV k 6 = (0 : Nat) ∨ plV k 6 = (1 : Nat) ∨ plV k 6 = (2 : Nat) ∨ plV k 6 = (3 : Nat) ∨ plV k 6 = (4 : Nat) ∨ plV k 6 = (5 : Nat) := by omega
    rcases hj with hj | hj | hj | hj | hj | hj
    · exact many_of_run W many_true_0 h (by omega) hj
    · exact many_of_run W many_true_1 h (by omega) hj
    · exact many_of_run W many_true_2 h (by omega) hj
    · exact many_of_run W many_true_3 h (by omega) hj
    · exact many_of_run W many_true_4 h (by omega) hj
    · exact many_of_run W many_true_5 h (by omega) hj
end Ab
end Go.Proofs.YthhnhbpmpdminaaGreatDoor
