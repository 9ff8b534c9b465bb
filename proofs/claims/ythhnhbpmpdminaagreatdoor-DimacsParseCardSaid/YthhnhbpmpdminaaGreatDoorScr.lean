/-
Lines and words by Go's library, as the reader calls them. Conditions: the texts' lengths; bytealg.MaxLen holds a number.
-/
import Derived.Test.YthhnhbpmpdminaaGreatDoorDln
namespace Go.Proofs.YthhnhbpmpdminaaGreatDoor
set_option maxRecDepth 4096
open Go.RowKit Go.Proofs.YthhnhbpmpdminaaGreatDoorW.PrintWords Go.Lib

def wordsP (s : ByteArray) : List ByteArray := Lib.goFieldsP (fun r => r == 32) s
def linesP (s : ByteArray) : List ByteArray := Lib.splitB ⟨#[10]⟩ 0 (Lib.countB s ⟨#[10]⟩) s
def ML (w : World) : Prop := ∃ m, w.cell? ⟨4, 0, none⟩ = some (.int .i64 m)
theorem blank_is (x : Int) (w : World) : Calls Tryz.prog 81 #[.int .i32 x] w fun e w' => e = .returned (.bool (x == 32)) ∧ w' = w := by
  go_enter Tryz.func81, Tryz.ntmps81
  go_wp2_with fail
  go_returns
  exact ⟨rfl, rfl⟩
theorem fields_any (s : ByteArray) (w : World) (hs : s.size ≤ 1000000) : Calls Tryz.prog 80 #[.string s, .func (.func 81) #[] #[]] w fun e w' =>
    ∃ A, e = .returned (.slice (some ⟨A, 0, none⟩) (wordsP s).length (wordsP s).length) ∧ WR w' A (wordsP s) ∧ Below w.heap.size w w' := by
  refine (Any.strings_FieldsFunc Tryz.lays229 81 #[] (fun args w => enters Tryz.func81 (by kernel_rfl) (by kernel_rfl) _ _) (fun r => r == 32) s w (by omega) (fun W x hb => ?_) (by kernel_rfl) (by kernel_rfl)).mono ?_
  · refine (blank_is (x : Int) W).mono fun e w' ⟨he, hw⟩ => ⟨?_, 0, hw⟩
    subst he
    have : ((x : Int) == 32) = (x == 32) := by
      by_cases h : x = 32
      · subst h; rfl
      · rw [beq_eq_false_iff_ne.2 h, beq_eq_false_iff_ne.2 (by omega : (x : Int) ≠ 32)]
    rw [this]
  · rintro e w' ⟨A, he, hA, hown, hB⟩
    refine ⟨A, he, ?_, hB⟩
    rcases hown.2 with ⟨q, _⟩ | ⟨g, cap, cur, q, _, hh, _, _, _, ht⟩
    · cases q
    · cases q
      refine ⟨cur.toList, ?_, ?_⟩
      · show w'.heap[A]? = some (.cells cur.toList.toArray 9 (0, 0))
        rw [Array.toArray_toList]; exact hh
      · rw [Nat.mul_one] at ht; exact ht
theorem split_any (s : ByteArray) (w : World) (hs : s.size ≤ 1000000) (hm : ML w) : Calls Tryz.prog 78 #[.string s, .string ⟨#[10]⟩] w fun e w' =>
    e = .returned (.slice (some ⟨w.heap.size, 0, none⟩) (Lib.countB s ⟨#[10]⟩ + 1) (Lib.countB s ⟨#[10]⟩ + 1)) ∧ Cells w' w.heap.size 9 ((linesP s).map Value.string) ∧ Below w.heap.size w w' := by
  obtain ⟨m, hm⟩ := hm
  refine (Any.strings_Split Tryz.lays146 (by kernel_rfl) s ⟨#[10]⟩ m w (by omega) hm (by decide)).mono ?_
  rintro e w' ⟨he, hw⟩
  subst hw
  exact ⟨he, Cells.new w _ _, (Below.refl _ _).alloc (Nat.le_refl _) _⟩
theorem refuse_any (i e : Int) (w : World) : Calls Tryz.prog 77 #[.int .i64 i, .int .i64 e] w fun r w' => ∃ k, r = .returned (.iface 87 (.pointer (some ⟨k, 0, none⟩))) ∧ Cells w' k 176 [.int .i64 i, .int .i64 e] ∧ Below w.heap.size w w' := by
  go_enter Tryz.func77, Tryz.ntmps77
  go_wp2_with fail
  go_returns
  exact ⟨w.heap.size, rfl, Cells.new w _ _, (Below.refl _ _).alloc (Nat.le_refl _) _⟩
end Go.Proofs.YthhnhbpmpdminaaGreatDoor
