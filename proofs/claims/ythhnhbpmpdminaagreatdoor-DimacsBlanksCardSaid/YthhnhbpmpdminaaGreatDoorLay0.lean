/-
The reader's state in memory; lays. Conditions: the lists' lengths.
-/
import Derived.Test.YthhnhbpmpdminaaGreatDoorTsy
import Derived.BigRegion
import Derived.Deep.RegionHeld3
namespace Go.Proofs.YthhnhbpmpdminaaGreatDoor
set_option maxRecDepth 4096
open Go.RowKit Go.Proofs.YthhnhbpmpdminaaGreatDoorW.PrintWords

def numsN (bs : List Nat) : List Value := bs.map fun (n : Nat) => Value.int .i64 (n : Int)

theorem Tryz.infoSexp : (Tryz.prog.info? 49).map (fun i => (i.zero, i.size, i.bytes)) = some (some (.agg #[.string ⟨#[]⟩, .bool false, .slice none 0 0]), 3, 48) := by kernel_rfl
theorem Tryz.infoSexps : (Tryz.prog.info? 47).map (fun i => (i.zero, i.size, i.bytes)) = some (some (.slice none 0 0), 1, 24) := by kernel_rfl
theorem Tryz.infoInt : (Tryz.prog.info? 3).map (fun i => (i.zero, i.size, i.bytes)) = some (some (.int .i64 0), 1, 8) := by kernel_rfl

/-- A row's own block, its cells. -/
theorem own_row {w : World} {base e size n : Nat} {v : Value} {xs : List Value} (h : w.ownsRow base e size v n xs) (hn : 0 < n) : ∃ g cap l, v = .slice (some ⟨g, 0, none⟩) n cap ∧ Cells w g e l ∧ base ≤ g ∧ n ≤ cap ∧ l.take (n * size) = xs ∧ cap ≤ 9223372036854775807 := by
  rcases h.2 with ⟨_, h0⟩ | ⟨g, cap, cur, rfl, hb, hh, hn, hc, _, ht⟩
  · omega
  · exact ⟨g, cap, cur.toList, rfl, by simpa [Cells] using hh, hb, hn, ht, hc⟩

end Go.Proofs.YthhnhbpmpdminaaGreatDoor
