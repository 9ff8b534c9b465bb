/-
What the row of ReadTwice (its second form) says of the program. Conditions: none.
-/
import Derived.Test.YthhnhbpmpdminaaGreatDoorProg
import Derived.Test.YthhnhbpmpdminaaGreatDoorChecked
import Derived.KernelRfl
import Derived.Test.YthhnhbpmpdminaaGreatDoorRows
import Derived.Test.YthhnhbpmpdminaaGreatDoorTie
import Derived.Test.YthhnhbpmpdminaaGreatDoorCards
import Derived.SevenTiedAt
import Derived.ProofKit
import Derived.LaidMore
import Derived.Lay
import Derived.Stop.Joined
namespace Go.Proofs.YthhnhbpmpdminaaGreatDoor
set_option maxRecDepth 4096
set_option maxHeartbeats 16000000
open Go.ChangeShapes Go.WideShapes Go.RowKit
theorem and_t {a b : Bool} (h : a = true) (g : b = true) : (a && b) = true := by rw [h, g]; rfl
theorem twice_facts : joinedFacts Tryz.prog 8 Tryz.f8 (Rows.OpenSpec.upto Rows.readTwiceSpec).bare Rows.readTwiceUptoRow = true := by
  unfold joinedFacts
  repeat' (with_reducible refine and_t ?_ ?_)
  all_goals (as_aux_lemma => kernel_rfl)
end Go.Proofs.YthhnhbpmpdminaaGreatDoor
