/-
The tests of a byte that package sexp calls: blank, plain. Conditions: none.
-/
import Derived.Test.YthhnhbpmpdminaaGreatDoorCuy
import Derived.Lib.IndexAny
namespace Go.Proofs.YthhnhbpmpdminaaGreatDoor
set_option maxRecDepth 4096
open Go.RowKit Go.Proofs.YthhnhbpmpdminaaGreatDoorW.PrintWords

theorem IndexByte_any (s : ByteArray) (c : Int) (w : World) : Calls Tryz.prog 190 #[.string s, .int .u8 c] w fun e w' => e = .returned (.int .i64 (Lib.indexByte s.data.toList c.toNat.toUInt8)) ∧ w' = w := by
  have hix : ∀ (w : World), (callFunc 258 #[.string s, .int .u8 c]).run Tryz.prog w = .ok (.value (.int .i64 (Lib.indexByte s.data.toList c.toNat.toUInt8))) w := fun w => by
    rw [run_callFunc_extern Tryz.func258 (by kernel_rfl) (by kernel_rfl) (by kernel_rfl) (e := Extern.BytealgIndexByte.indexByte) (by kernel_rfl), Lib.run_indexByteString]
    rfl
  go_enter Tryz.func190, Tryz.ntmps190
  go_wp2_with go_in
  go_wp2
  go_returns
  exact ⟨rfl, rfl⟩

theorem blankB_int (b : UInt8) : blankB b = ((b.toNat : Int) == 32 || (b.toNat : Int) == 9 || (b.toNat : Int) == 10 || (b.toNat : Int) == 13) := by
  have h : ∀ k : UInt8, ((b.toNat : Int) == (k.toNat : Int)) = (b == k) := fun k => by
    rw [Bool.eq_iff_iff, beq_iff_eq, beq_iff_eq]
    exact ⟨fun h => UInt8.toNat_inj.1 (by omega), fun h => by rw [h]⟩
  unfold blankB
  rw [← h 32, ← h 9, ← h 10, ← h 13]
  rfl

theorem plainB_in (b : UInt8) (h : (97 ≤ b.toNat ∧ b.toNat ≤ 122) ∨ (65 ≤ b.toNat ∧ b.toNat ≤ 90) ∨ (48 ≤ b.toNat ∧ b.toNat ≤ 57)) : plainB b = true := by
  unfold plainB
  have e : ∀ x y : UInt8, (x.toNat ≤ b.toNat ∧ b.toNat ≤ y.toNat) → (x ≤ b && b ≤ y) = true := fun x y h => by simp [UInt8.le_iff_toNat_le, h]
  rcases h with h | h | h
  · rw [e 97 122 h]; simp
  · rw [e 65 90 h]; simp
  · rw [e 48 57 h]; simp
theorem plainB_out (b : UInt8) (h : ¬ ((97 ≤ b.toNat ∧ b.toNat ≤ 122) ∨ (65 ≤ b.toNat ∧ b.toNat ≤ 90) ∨ (48 ≤ b.toNat ∧ b.toNat ≤ 57))) :
    plainB b = decide (0 ≤ Lib.indexByte [126, 33, 64, 36, 37, 94, 38, 42, 95, 45, 43, 61, 60, 62, 46, 63, 47, 35, 58, 39, 44] b) := by
  unfold plainB
  have e : ∀ x y : UInt8, ¬ (x.toNat ≤ b.toNat ∧ b.toNat ≤ y.toNat) → (x ≤ b && b ≤ y) = false := fun x y h => by
    rw [Bool.eq_false_iff]; intro h'; simp [UInt8.le_iff_toNat_le] at h'; exact h h'
  rw [e 97 122 (fun q => h (.inl q)), e 65 90 (fun q => h (.inr (.inl q))), e 48 57 (fun q => h (.inr (.inr q))), ← Lib.contains_iff_indexByte]
  rfl

theorem plain_any : TestFn 138 plainB := ⟨fun args w => enters Tryz.func138 (by kernel_rfl) (by kernel_rfl) args w, fun b w => by
  have hb : (b.toNat : Int) < 256 := by have := b.toNat_lt; omega
  by_cases hin : (97 ≤ b.toNat ∧ b.toNat ≤ 122) ∨ (65 ≤ b.toNat ∧ b.toNat ≤ 90) ∨ (48 ≤ b.toNat ∧ b.toNat ≤ 57)
  · rw [plainB_in b hin]
    rcases hin with ⟨h1, h2⟩ | ⟨h1, h2⟩ | ⟨h1, h2⟩
    all_goals
      have g1 : (b.toNat : Int) ≥ 48 := by omega
      have g2 : (b.toNat : Int) ≤ 122 := by omega
      (try have g3 : (b.toNat : Int) ≥ 97 := by omega)
      (try have g3 : (b.toNat : Int) ≥ 65 := by omega)
      (try have g4 : (b.toNat : Int) ≤ 90 := by omega)
      (try have g5 : (b.toNat : Int) ≤ 57 := by omega)
      clear h1 h2
      go_enter Tryz.func138, Tryz.ntmps138
      go_wp2
      go_ret
      exact ⟨rfl, 0, rfl⟩
  · rw [plainB_out b hin]
    have H : ∀ (w : World), Calls Tryz.prog 190 #[.string ⟨#[126, 33, 64, 36, 37, 94, 38, 42, 95, 45, 43, 61, 60, 62, 46, 63, 47, 35, 58, 39, 44]⟩, .int .u8 (b.toNat : Int)] w fun e w' => e = .returned (.int .i64 (Lib.indexByte [126, 33, 64, 36, 37, 94, 38, 42, 95, 45, 43, 61, 60, 62, 46, 63, 47, 35, 58, 39, 44] b)) ∧ w' = w := fun w => by
      have := IndexByte_any ⟨#[126, 33, 64, 36, 37, 94, 38, 42, 95, 45, 43, 61, 60, 62, 46, 63, 47, 35, 58, 39, 44]⟩ (b.toNat : Int) w
      rw [show ((b.toNat : Int).toNat.toUInt8) = b by simp] at this
      exact this
    have HH := Aside0.mk H
    clear H
    have cases : (b.toNat : Int) < 48 ∨ (57 < (b.toNat : Int) ∧ (b.toNat : Int) < 65) ∨ (90 < (b.toNat : Int) ∧ (b.toNat : Int) < 97) ∨ 122 < (b.toNat : Int) := by omega
    clear hin
    rcases cases with h | ⟨h1, h2⟩ | ⟨h1, h2⟩ | h
    all_goals
      (try have d1 : decide ((b.toNat : Int) ≤ 57) = false := by simp; omega)
      (try have d2 : decide ((b.toNat : Int) ≤ 90) = false := by simp; omega)
      (try have d3 : decide ((b.toNat : Int) ≤ 122) = false := by simp; omega)
      go_enter Tryz.func138, Tryz.ntmps138
      go_wp2_with fail
      refine (HH.out _).mono ?_
      rintro e w1 ⟨rfl, rfl⟩
      go_wp2_with fail
      go_returns
      exact ⟨rfl, 0, rfl⟩⟩
end Go.Proofs.YthhnhbpmpdminaaGreatDoor
