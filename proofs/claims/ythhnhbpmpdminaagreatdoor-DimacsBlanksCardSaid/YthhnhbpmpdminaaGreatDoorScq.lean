/-
Contracts of Go's library in this program's own numbers. Conditions: the texts' lengths.
-/
import Derived.Test.YthhnhbpmpdminaaGreatDoorScp
import Derived.Test.YthhnhbpmpdminaaGreatDoorDgt
namespace Go.Proofs.YthhnhbpmpdminaaGreatDoor
set_option maxRecDepth 4096
open Go.RowKit Go.Proofs.YthhnhbpmpdminaaGreatDoorW.PrintWords Go.Lib

theorem cut_any (s : ByteArray) (w : World) : Calls Tryz.prog 160 #[.string s, .string ⟨#[45]⟩] w fun e w' => e = .returned (.tuple #[.string ⟨(Lib.trimPrefix s.data.toList [45]).toArray⟩, .bool (Lib.hasPrefix s.data.toList [45])]) ∧ w' = w :=
  Any.strings_CutPrefix Tryz.lays103 s ⟨#[45]⟩ w
end Go.Proofs.YthhnhbpmpdminaaGreatDoor
