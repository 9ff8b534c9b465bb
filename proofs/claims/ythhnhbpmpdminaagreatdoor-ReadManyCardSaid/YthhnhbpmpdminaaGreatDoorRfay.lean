/-
The reference's tests of a byte, and its word. Conditions: the text's length.
-/
import Derived.Test.YthhnhbpmpdminaaGreatDoorTsy
namespace Go.Proofs.YthhnhbpmpdminaaGreatDoor
set_option maxRecDepth 4096
open Go.RowKit Go.Proofs.YthhnhbpmpdminaaGreatDoorW.PrintWords

theorem rblank_any : TestFn 103 blankB := ⟨fun args w => enters Tryz.func103 (by kernel_rfl) (by kernel_rfl) args w, fun b w => by
  rw [blankB_int]
  by_cases h1 : (b.toNat : Int) = 32
  · rw [h1]
    go_enter Tryz.func103, Tryz.ntmps103
    go_wp2
    go_ret
    exact ⟨rfl, 0, rfl⟩
  · have e1 : ((b.toNat : Int) == 32) = false := by simpa using h1
    rw [e1]
    by_cases h2 : (b.toNat : Int) = 9
    · rw [h2]
      go_enter Tryz.func103, Tryz.ntmps103
      go_wp2
      go_ret
      exact ⟨rfl, 0, rfl⟩
    · have e2 : ((b.toNat : Int) == 9) = false := by simpa using h2
      rw [e2]
      by_cases h3 : (b.toNat : Int) = 10
      · rw [h3]
        go_enter Tryz.func103, Tryz.ntmps103
        go_wp2
        go_ret
        exact ⟨rfl, 0, rfl⟩
      · have e3 : ((b.toNat : Int) == 10) = false := by simpa using h3
        rw [e3]
        go_enter Tryz.func103, Tryz.ntmps103
        go_wp2
        go_ret
        exact ⟨rfl, 0, rfl⟩⟩

set_option maxHeartbeats 4000000 in
theorem In_any : TestFn 97 plainB := ⟨fun args w => enters Tryz.func97 (by kernel_rfl) (by kernel_rfl) args w, fun b w => by
  have hb : (b.toNat : Int) < 256 := by have := b.toNat_lt; omega
  by_cases hin : (97 ≤ b.toNat ∧ b.toNat ≤ 122) ∨ (65 ≤ b.toNat ∧ b.toNat ≤ 90) ∨ (48 ≤ b.toNat ∧ b.toNat ≤ 57)
  · rw [plainB_in b hin]
    rcases hin with ⟨h1, h2⟩ | ⟨h1, h2⟩ | ⟨h1, h2⟩
    all_goals
      have g1 : (b.toNat : Int) ≥ 48 := by omega
      have g2 : (b.toNat : Int) ≤ 122 := by omega
      (try have g3 : (b.toNat : Int) ≥ 97 := by omega)
      (try have g3 : (b.toNat : Int) ≥ 65 := by omega)
      (try have g4 : (b.toNat : Int) ≤ 90 := by omega)
      (try have g5 : (b.toNat : Int) ≤ 57 := by omega)
      clear h1 h2
      go_enter Tryz.func97, Tryz.ntmps97
      go_wp2
      go_ret
      exact ⟨rfl, 0, rfl⟩
  · by_cases hl : b ∈ ([126, 33, 64, 36, 37, 94, 38, 42, 95, 45, 43, 61, 60, 62, 46, 63, 47, 35, 58, 39, 44] : List UInt8)
    · have hp : plainB b = true := by unfold plainB; rw [Bool.or_eq_true]; right; simpa using hl
      rw [hp]
      clear hp hin hb
      simp only [List.mem_cons, List.not_mem_nil, or_false] at hl
      rcases hl with rfl | rfl | rfl | rfl | rfl | rfl | rfl | rfl | rfl | rfl | rfl | rfl | rfl | rfl | rfl | rfl | rfl | rfl | rfl | rfl | rfl
      all_goals
        go_enter Tryz.func97, Tryz.ntmps97
        go_wp2
        go_ret
        exact ⟨rfl, 0, rfl⟩
    · have hp : plainB b = false := by
        unfold plainB
        have e : ∀ x y : UInt8, ¬ (x.toNat ≤ b.toNat ∧ b.toNat ≤ y.toNat) → (x ≤ b && b ≤ y) = false := fun x y h => by
          rw [Bool.eq_false_iff]; intro h'; simp [UInt8.le_iff_toNat_le] at h'; exact h h'
        rw [e 97 122 (fun q => hin (.inl q)), e 65 90 (fun q => hin (.inr (.inl q))), e 48 57 (fun q => hin (.inr (.inr q)))]
        simpa using hl
      rw [hp]
      have cases : (b.toNat : Int) < 48 ∨ (57 < (b.toNat : Int) ∧ (b.toNat : Int) < 65) ∨ (90 < (b.toNat : Int) ∧ (b.toNat : Int) < 97) ∨ 122 < (b.toNat : Int) := by omega
      have ne : ∀ k : UInt8, k ∈ ([126, 33, 64, 36, 37, 94, 38, 42, 95, 45, 43, 61, 60, 62, 46, 63, 47, 35, 58, 39, 44] : List UInt8) → ((b.toNat : Int) == (k.toNat : Int)) = false := fun k hk => by
        rw [beq_eq_false_iff_ne]; intro e; exact hl (UInt8.toNat_inj.1 (by omega : b.toNat = k.toNat) ▸ hk)
      have e1 := ne 126 (by decide)
      have e2 := ne 33 (by decide)
      have e3 := ne 64 (by decide)
      have e4 := ne 36 (by decide)
      have e5 := ne 37 (by decide)
      have e6 := ne 94 (by decide)
      have e7 := ne 38 (by decide)
      have e8 := ne 42 (by decide)
      have e9 := ne 95 (by decide)
      have e10 := ne 45 (by decide)
      have e11 := ne 43 (by decide)
      have e12 := ne 61 (by decide)
      have e13 := ne 60 (by decide)
      have e14 := ne 62 (by decide)
      have e15 := ne 46 (by decide)
      have e16 := ne 63 (by decide)
      have e17 := ne 47 (by decide)
      have e18 := ne 35 (by decide)
      have e19 := ne 58 (by decide)
      have e20 := ne 39 (by decide)
      have e21 := ne 44 (by decide)
      simp only [UInt8.reduceToNat, Int.cast_ofNat_Int] at e1 e2 e3 e4 e5 e6 e7 e8 e9 e10 e11 e12 e13 e14 e15 e16 e17 e18 e19 e20 e21
      clear ne hl hp hin
      rcases cases with h | ⟨h1, h2⟩ | ⟨h1, h2⟩ | h
      all_goals
        (try have d1 : decide ((b.toNat : Int) ≤ 57) = false := by simp; omega)
        (try have d2 : decide ((b.toNat : Int) ≤ 90) = false := by simp; omega)
        (try have d3 : decide ((b.toNat : Int) ≤ 122) = false := by simp; omega)
        go_enter Tryz.func97, Tryz.ntmps97
        go_wp2
        go_ret
        exact ⟨rfl, 0, rfl⟩⟩
end Go.Proofs.YthhnhbpmpdminaaGreatDoor
