/-
Small laws for the printed functions. Conditions: none.
-/
import Derived.Test.YthhnhbpmpdminaaGreatDoorPda
import Derived.Test.YthhnhbpmpdminaaGreatDoorDrd
namespace Go.Proofs.YthhnhbpmpdminaaGreatDoor
set_option maxRecDepth 4096
open Go.RowKit Go.Proofs.YthhnhbpmpdminaaGreatDoorW.PrintWords

theorem w64 {n : Int} (h : -9223372036854775808 ≤ n ∧ n ≤ 9223372036854775807) : wrap64 n = n := by unfold wrap64; omega
theorem app_data (a b : ByteArray) : (a ++ b).data.toList = a.data.toList ++ b.data.toList := by simp
end Go.Proofs.YthhnhbpmpdminaaGreatDoor
