/-
What the row of ReadNumbers says of the program. Conditions: none.
-/
import Derived.Test.YthhnhbpmpdminaaGreatDoorProg
import Derived.Test.YthhnhbpmpdminaaGreatDoorChecked
import Derived.KernelRfl
import Derived.Test.YthhnhbpmpdminaaGreatDoorRows
import Derived.Test.YthhnhbpmpdminaaGreatDoorTie
import Derived.Test.YthhnhbpmpdminaaGreatDoorCards
import Derived.SevenTiedAt
import Derived.ProofKit
import Derived.LaidMore
import Derived.Lay
import Derived.Stop.Joined
namespace Go.Proofs.YthhnhbpmpdminaaGreatDoor
set_option maxRecDepth 4096
set_option maxHeartbeats 16000000
open Go.ChangeShapes Go.WideShapes Go.RowKit
open Go.ChangeMaps (open_string shut_string)
theorem and_t {a b : Bool} (h : a = true) (g : b = true) : (a && b) = true := by rw [h, g]; rfl
theorem numbers_facts : joinedFacts Tryz.prog 10 Tryz.f10 Rows.readNumbersSpec Rows.readNumbersRow = true := by
  unfold joinedFacts
  repeat' (with_reducible refine and_t ?_ ?_)
  all_goals (as_aux_lemma => kernel_rfl)
end Go.Proofs.YthhnhbpmpdminaaGreatDoor
