/-
plaithelp.Place: a number below n, whatever k is. Conditions: n positive.
-/
import Derived.Test.YtdhfjaekhibaaaaDoorLay
import Derived.IntWalk
namespace Go.Proofs.YtdhfjaekhibaaaaDoor
set_option maxRecDepth 4096
open Go.RowKit Go.Proofs.YtdhfjaekhibaaaaDoorW.PrintWords Go.Proofs.YtdhfjaekhibaaaaDoorW.PrintLast

def PlaceOut (n : Nat) (e : Ending) : Prop := ∃ r : Nat, r < n ∧ e = .returned (.int .i64 (r : Int))

theorem place_any (k : Int) (n : Nat) (w : World) (h0 : 0 < n) (h1 : n ≤ 1000000) (hk : -9223372036854775808 ≤ k ∧ k ≤ 9223372036854775807) :
    Calls Tryd.prog 23 #[.int .i64 k, .int .i64 (n : Int)] w fun e w' => PlaceOut n e ∧ w' = w := by
  have hne : ¬ (n : Int) = 0 := by omega
  have hlt := Int.tmod_lt_of_pos k (b := (n : Int)) (by omega)
  have hgt := Int.lt_tmod_of_pos k (b := (n : Int)) (by omega)
  by_cases hz : k.tmod (n : Int) < 0
  · go_enter Tryd.func23, Tryd.ntmps23
    go_wp2_with fail
    go_returns
    refine ⟨⟨(k.tmod (n : Int) + n).toNat, by omega, ?_⟩, rfl⟩
    exact congrArg (fun x => Ending.returned (.int .i64 x)) (by omega)
  · have hz' : (0 : Int) ≤ k.tmod (n : Int) := by omega
    clear hz
    go_enter Tryd.func23, Tryd.ntmps23
    go_wp2_with fail
    go_returns
    refine ⟨⟨(k.tmod (n : Int)).toNat, by omega, ?_⟩, rfl⟩
    exact congrArg (fun x => Ending.returned (.int .i64 x)) (by omega)
end Go.Proofs.YtdhfjaekhibaaaaDoor
