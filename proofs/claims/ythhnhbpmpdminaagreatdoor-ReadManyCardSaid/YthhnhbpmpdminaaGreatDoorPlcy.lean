/-
plaithelp.Place: its number. Conditions: n positive.
-/
import Derived.Test.YthhnhbpmpdminaaGreatDoorLay0
import Derived.IntWalk
namespace Go.Proofs.YthhnhbpmpdminaaGreatDoor
set_option maxRecDepth 4096
open Go.RowKit Go.Proofs.YthhnhbpmpdminaaGreatDoorW.PrintWords Go.Proofs.YthhnhbpmpdminaaGreatDoorW.PrintLast

def plV (k : Int) (n : Nat) : Int := if k.tmod (n : Int) < 0 then k.tmod (n : Int) + n else k.tmod (n : Int)
theorem plV_range (k : Int) (n : Nat) (h0 : 0 < n) : 0 ≤ plV k n ∧ plV k n ≤ n - 1 := by
  have hlt := Int.tmod_lt_of_pos k (b := (n : Int)) (by omega)
  have hgt := Int.lt_tmod_of_pos k (b := (n : Int)) (by omega)
  unfold plV
  split <;> omega
theorem place_val (k : Int) (n : Nat) (w : World) (h0 : 0 < n) (h1 : n ≤ 1000000) :
    Calls Tryz.prog 39 #[.int .i64 k, .int .i64 (n : Int)] w fun e w' => e = .returned (.int .i64 (plV k n)) ∧ w' = w := by
  have hne : ¬ (n : Int) = 0 := by omega
  have hlt := Int.tmod_lt_of_pos k (b := (n : Int)) (by omega)
  have hgt := Int.lt_tmod_of_pos k (b := (n : Int)) (by omega)
  unfold plV
  by_cases hz : k.tmod (n : Int) < 0
  · rw [if_pos hz]
    go_enter Tryz.func39, Tryz.ntmps39
    go_wp2_with fail
    go_returns
    exact ⟨rfl, rfl⟩
  · rw [if_neg hz]
    have hz' : (0 : Int) ≤ k.tmod (n : Int) := by omega
    clear hz
    go_enter Tryz.func39, Tryz.ntmps39
    go_wp2_with fail
    go_returns
    exact ⟨rfl, rfl⟩
end Go.Proofs.YthhnhbpmpdminaaGreatDoor
