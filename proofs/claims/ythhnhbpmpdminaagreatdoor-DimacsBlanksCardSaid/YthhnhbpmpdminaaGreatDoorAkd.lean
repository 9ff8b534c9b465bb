/-
The example of the statements of layer 19, run. Conditions: errors.errorType and the powers of ten are as they are laid.
-/
import Derived.Test.YthhnhbpmpdminaaGreatDoorAkf
namespace Go.Proofs.YthhnhbpmpdminaaGreatDoor
namespace Ab
open Go.RowKit
set_option maxRecDepth 100000

theorem known19_run : (match (fs SK 100000).call 12 [] .empty with
    | some (.bool b, _) => b
    | _ => false) = true := by kernel_rfl
theorem known19 {W : World} (hE : EV W) (hp : PW W) : Calls Tryz.prog 12 #[] W fun e W' => e = .returned (.bool true) ∧ Below W.heap.size W W' := by
  have h := known19_run
  split at h
  · rename_i b H hb
    subst h
    rw [fs_call] at hb
    exact closed_call (SK_fit hE hp) Tryz.func12 rfl hb
  · cases h
end Ab
end Go.Proofs.YthhnhbpmpdminaaGreatDoor
