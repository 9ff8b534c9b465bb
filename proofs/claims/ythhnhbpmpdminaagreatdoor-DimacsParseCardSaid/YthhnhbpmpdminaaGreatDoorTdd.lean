/-
plaitlaw19.told: the line and the number of an error. Conditions: errors.errorType holds the descriptor of error.
-/
import Derived.Test.YthhnhbpmpdminaaGreatDoorTas
import Derived.Test.YthhnhbpmpdminaaGreatDoorDrd
namespace Go.Proofs.YthhnhbpmpdminaaGreatDoor
set_option maxRecDepth 4096
open Go.RowKit Go.Proofs.YthhnhbpmpdminaaGreatDoorW.PrintWords

theorem told_nil (w : World) : Calls Tryz.prog 15 #[.nilIface] w fun e w' => e = .returned (.tuple #[.int .i64 0, .int .i64 0]) ∧ w' = w := by
  go_enter Tryz.func15, Tryz.ntmps15
  go_wp2
  go_ret2
  exact ⟨rfl, rfl⟩

set_option maxHeartbeats 2000000 in
theorem told_err (b p n : Nat) (w : World) (hb : Cells w b 176 [.int .i64 (p : Int), .int .i64 (n : Int)]) (hE : EV w) :
    Calls Tryz.prog 15 #[.iface 87 (.pointer (some ⟨b, 0, none⟩))] w fun e w' => e = .returned (.tuple #[.int .i64 (p : Int), .int .i64 (n : Int)]) ∧ Below w.heap.size w w' := by
  have hE1 : EV (w.alloc (.cells #[.pointer none] 87)) := by
    have he : w.cell? ⟨0, 0, none⟩ = some (.iface 182 (.agg #[.pointer (some ⟨9, 25, none⟩)])) := hE
    have hel : 0 < w.heap.size := World.block_lt_of_cell? w _ he
    show (w.alloc _).cell? ⟨0, 0, none⟩ = _
    rw [World.cell?_alloc_past _ _ _ hel]; exact he
  have HB := Aside0.mk hb
  have HE := Aside0.mk hE1
  clear hE hE1 hb
  go_enter Tryz.func15, Tryz.ntmps15
  go_wp2_with fail
  refine (As_any b w.heap.size (.pointer none) [] _ (Cells.new w 87 [.pointer none]) HE.out).mono ?_
  rintro e w1 ⟨rfl, hf1, hm1⟩
  have hb1 := (HB.out.alloc (.cells #[.pointer none] 87)).keep hm1 (fun e => by have := HB.out.lt; omega)
  have c0 := hf1.cell 0 _ rfl
  have c1 := hb1.cell 0 _ rfl
  have c2 := hb1.cell 1 _ rfl
  have HM := Aside0.mk hm1
  clear hm1 hf1 hb1
  go_wp2_with fail
  go_quiet (fail)
  go_wp2_with fail
  go_returns
  exact ⟨rfl, pw_below_drewN (((Below.refl w.heap.size w).alloc (Nat.le_refl _) _).trans (HM.out.belowB (fun k hk => hk ▸ Nat.le_refl _) (by simp))) _⟩
end Go.Proofs.YthhnhbpmpdminaaGreatDoor
