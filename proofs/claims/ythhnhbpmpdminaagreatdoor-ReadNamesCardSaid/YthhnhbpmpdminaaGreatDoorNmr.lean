/-
Which words are names for the reference. Conditions: none.
-/
import Derived.Test.YthhnhbpmpdminaaGreatDoorNme
namespace Go.Proofs.YthhnhbpmpdminaaGreatDoor
open Go.RowKit Go.Proofs.YthhnhbpmpdminaaGreatDoorW.PrintWords
set_option maxRecDepth 4096

set_option maxHeartbeats 2000000 in
theorem rName_any (s : ByteArray) (W : World) (hs : s.size ≤ 9223372036854775807) : Calls Tryz.prog 30 #[.string s] W fun e W' => e = .returned (.bool (nameB s.data.toList)) ∧ Below W.heap.size W W' := by
  have hl : s.data.toList.length = s.size := by rw [Array.length_toList]; rfl
  by_cases hw : wordB s.data.toList = true
  · have h0 : 0 < s.size := by
      rcases Nat.eq_zero_or_pos s.size with e | e
      · have : s.data.toList = [] := List.length_eq_zero_iff.1 (by omega)
        rw [this] at hw; exact absurd hw (by decide)
      · exact e
    have h1 : (0 : Int) < (s.size : Int) := by omega
    have HN := Aside0.mk (nameB_eq h0 hw)
    have HW := Aside0.mk hw
    clear hw
    go_enter Tryz.func30, Tryz.ntmps30
    go_wp2_with fail
    refine (rword_any s W hs).mono ?_
    rintro e w1 ⟨rfl, n1, hw1⟩
    rw [HW.out]
    have HB := Aside0.mk (show Below W.heap.size W w1 from hw1 ▸ pw_below_drewN (Below.refl _ _) n1)
    clear hw1
    go_wp2_with fail
    all_goals first
      | (go_returns
         refine ⟨?_, HB.out⟩
         rw [HN.out]
         simp only [ByteArray.toList_eq] at *
         first | (simp [*]; done) | (exfalso; simp_all; done) | (simp_all; done) | (rename_i hx; rcases hx with (hx | hx) | hx <;> first | (exfalso; omega) | (simp only [beq_iff_eq] at hx; simp [hx]; done) | (exfalso; simp_all; done) | (simp_all; done)) | (rename_i hx; rcases hx with hx | hx <;> first | (exfalso; omega) | (simp only [beq_iff_eq] at hx; simp [hx]; done) | (exfalso; simp_all; done) | (simp_all; done)) | (simp [*]; first | (have d1 : decide ((s[0].toNat : Int) ≤ 57) = false := decide_eq_false (by omega); simp [d1]; done) | (have d2 : decide ((48 : Int) ≤ (s[0].toNat : Int)) = false := decide_eq_false (by omega); rw [d2]; simp; done) | (have d1 : decide ((s[0].toNat : Int) ≤ 57) = false := decide_eq_false (by omega); rw [d1]; simp; done) | skip))
      | skip
    refine (operator_any s _).mono ?_
    rintro e w2 ⟨⟨n, m, k, rfl, hn⟩, rfl⟩
    by_cases hz : n = 0
    · subst hz
      have HP := Aside0.mk (hn.1 rfl)
      clear hn
      go_wp2_with fail
      all_goals (
        go_returns
        refine ⟨?_, HB.out⟩
        rw [HN.out]
        have hn := HP.out
        simp only [ByteArray.toList_eq] at *
        first | (simp [*]; done) | (exfalso; simp_all; done) | (simp_all; done) | (rename_i hx; rcases hx with (hx | hx) | hx <;> first | (exfalso; omega) | (simp only [beq_iff_eq] at hx; simp [hx]; done) | (exfalso; simp_all; done) | (simp_all; done)) | (rename_i hx; rcases hx with hx | hx <;> first | (exfalso; omega) | (simp only [beq_iff_eq] at hx; simp [hx]; done) | (exfalso; simp_all; done) | (simp_all; done)) | (simp [*]; first | (have d1 : decide ((s[0].toNat : Int) ≤ 57) = false := decide_eq_false (by omega); simp [d1]; done) | (have d2 : decide ((48 : Int) ≤ (s[0].toNat : Int)) = false := decide_eq_false (by omega); rw [d2]; simp; done) | (have d1 : decide ((s[0].toNat : Int) ≤ 57) = false := decide_eq_false (by omega); rw [d1]; simp; done) | skip))
    · have HP := Aside0.mk (fun h => hz (hn.2 h))
      clear hn
      go_wp2_with fail
      all_goals (
        go_returns
        refine ⟨?_, HB.out⟩
        rw [HN.out]
        have hn := HP.out
        simp only [ByteArray.toList_eq] at *
        first | (simp [*]; done) | (exfalso; simp_all; done) | (simp_all; done) | (simp [*]; first | (have d1 : decide ((s[0].toNat : Int) ≤ 57) = false := decide_eq_false (by omega); simp [d1]; done) | (have d2 : decide ((48 : Int) ≤ (s[0].toNat : Int)) = false := decide_eq_false (by omega); rw [d2]; simp; done) | (have d1 : decide ((s[0].toNat : Int) ≤ 57) = false := decide_eq_false (by omega); rw [d1]; simp; done) | skip))
  · have hf : wordB s.data.toList = false := by simpa using hw
    have HN : Aside0 (nameB s.data.toList = false) := ⟨by unfold nameB; rw [hf]; rfl⟩
    have HW := Aside0.mk hf
    clear hf hw
    go_enter Tryz.func30, Tryz.ntmps30
    go_wp2_with fail
    refine (rword_any s W hs).mono ?_
    rintro e w1 ⟨rfl, n1, hw1⟩
    rw [HW.out]
    have HB := Aside0.mk (show Below W.heap.size W w1 from hw1 ▸ pw_below_drewN (Below.refl _ _) n1)
    clear hw1
    go_wp2_with fail
    go_returns
    exact ⟨by rw [HN.out]; rfl, HB.out⟩
end Go.Proofs.YthhnhbpmpdminaaGreatDoor
