/-
Is it a word: the reference's. Conditions: how long the text is.
-/
import Derived.Test.YthhnhbpmpdminaaGreatDoorWrdy
namespace Go.Proofs.YthhnhbpmpdminaaGreatDoor
set_option maxRecDepth 4096
open Go.RowKit Go.Proofs.YthhnhbpmpdminaaGreatDoorW.PrintWords Go.Proofs.YthhnhbpmpdminaaGreatDoorW.PrintLast

theorem wordB_plain {s : ByteArray} (h : 0 < s.size) (hn : ¬ (2 ≤ s.size ∧ s.data.toList[0]? = some 124 ∧ s.data.toList[s.size - 1]? = some 124)) : wordB s.data.toList = (scan plainB s.data.toList 0 == s.size) := by
  have hl : s.data.toList.length = s.size := by rw [Array.length_toList]; rfl
  unfold wordB
  rw [hl, if_neg hn, show s.data.toList.isEmpty = false by rw [List.isEmpty_eq_false_iff]; intro e; rw [e] at hl; simp at hl; omega]
  simp

set_option maxHeartbeats 1000000 in
theorem rword_any (s : ByteArray) (w : World) (hs : s.size ≤ 9223372036854775807) :
    Calls Tryz.prog 69 #[.string s] w fun e w' => e = .returned (.bool (wordB s.data.toList)) ∧ ∃ n, w' = w.drewN n := by
  have hl : s.data.toList.length = s.size := by rw [Array.length_toList]; rfl
  by_cases hz : s.size = 0
  · have hse : s = ⟨#[]⟩ := by apply ByteArray.ext; exact Array.eq_empty_of_size_eq_zero hz
    have HV : Aside0 (wordB s.data.toList = false) := ⟨by rw [hse]; rfl⟩
    have z0 : ((s.size : Int) == 0) = true := by rw [hz]; rfl
    clear hse
    go_enter Tryz.func69, Tryz.ntmps69
    go_wp2_with fail
    go_returns
    exact ⟨by rw [HV.out]; rfl, 0, rfl⟩
  have z0 : ((s.size : Int) == 0) = false := by rw [beq_eq_false_iff_ne]; omega
  have i3 : (0 : Int) < (s.size : Int) := by omega
  have hg0 : s.data.toList[0]? = some (s[0]'(by omega)) := List.getElem?_eq_some_iff.2 ⟨by omega, rfl⟩
  by_cases h0 : s[0]'(by omega) = 124
  · have e0 : (((s[0]'(by omega)).toNat : Int) == 124) = true := by rw [h0]; rfl
    have hsc0 : scan plainB s.data.toList 0 = 0 := scan_no plainB _ 0 (by omega) (by
      show plainB (s[0]'(by omega)) = false
      rw [h0]; rfl)
    by_cases h2 : 2 ≤ s.size
    · have i2 : (2 : Int) ≤ (s.size : Int) := by omega
      have hg1 : s.data.toList[s.size - 1]? = some (s[s.size - 1]'(by omega)) := List.getElem?_eq_some_iff.2 ⟨by omega, rfl⟩
      by_cases h1 : s[s.size - 1]'(by omega) = 124
      · have e1 : (((s[s.size - 1]'(by omega)).toNat : Int) == 124) = true := by rw [h1]; rfl
        have e1' : (((s[s.size - 1]'(by omega)).toNat : Int) != 124) = false := by rw [h1]; rfl
        have HV : Aside0 (wordB s.data.toList = (scan notBar s.data.toList 1 == s.size - 1)) := ⟨by
          unfold wordB; rw [hl, if_pos ⟨h2, by rw [hg0, h0], by rw [hg1, h1]⟩]⟩
        have HE : Aside0 (scan notBar s.data.toList (s.size - 1) = s.size - 1) := ⟨scan_no notBar _ _ (by omega) (by
          show notBar (s[s.size - 1]'(by omega)) = false
          rw [h1]; rfl)⟩
        clear hg0 hg1 h0 h1 hsc0
        go_enter Tryz.func69, Tryz.ntmps69
        go_wp2_with fail
        go_loop [3] (fun v => ∃ j : Nat, 1 ≤ j ∧ j ≤ s.size - 1 ∧ v = .int .i64 (j : Int) ∧ Hid (scan notBar s.data.toList 1 = scan notBar s.data.toList j)) (fun v => s.size - (intOf v).toNat)
        case atStart => exact ⟨1, Nat.le_refl _, by omega, rfl, rfl⟩
        case round =>
          obtain ⟨j, hj1, hj, rfl, hsc⟩ := hrel
          by_cases hlt : j < s.size - 1
          · have j0 : (0 : Int) ≤ (j : Int) := by omega
            have j1 : (j : Int) < (s.size : Int) := by omega
            have j2 : (j : Int) < (s.size : Int) - 1 := by omega
            have hget : s.data.toList[j]'(by omega) = s[j]'(by omega) := rfl
            by_cases h124 : s[j]'(by omega) = 124
            · have e2 : (((s[j]'(by omega)).toNat : Int) == 124) = true := by rw [h124]; rfl
              have hzz : Hid (scan notBar s.data.toList j = j) := scan_no notBar _ j (by omega) (by rw [hget, h124]; rfl)
              clear h124 hget
              go_wp2_with fail
              go_returns
              exact ⟨by rw [HV.out, hsc.out, hzz.out, show (j == s.size - 1) = false by rw [beq_eq_false_iff_ne]; omega]; rfl, 0, rfl⟩
            · have e2 : (((s[j]'(by omega)).toNat : Int) == 124) = false := ne_int124 h124
              by_cases h10 : s[j]'(by omega) = 10
              · have e3 : (((s[j]'(by omega)).toNat : Int) == 10) = true := by rw [h10]; rfl
                have hzz : Hid (scan notBar s.data.toList j = j) := scan_no notBar _ j (by omega) (by rw [hget, h10]; rfl)
                clear h124 h10 hget
                go_wp2_with fail
                go_returns
                exact ⟨by rw [HV.out, hsc.out, hzz.out, show (j == s.size - 1) = false by rw [beq_eq_false_iff_ne]; omega]; rfl, 0, rfl⟩
              · have e3 : (((s[j]'(by omega)).toNat : Int) == 10) = false := by
                  rw [show (((s[j]'(by omega)).toNat : Int) == 10) = (((s[j]'(by omega)).toNat : Int) == ((10 : UInt8).toNat : Int)) from rfl, eq_int]
                  simpa using h10
                have hzz : Hid (scan notBar s.data.toList j = scan notBar s.data.toList (j + 1)) := scan_yes notBar _ j (by omega) (by
                  rw [hget]; unfold notBar
                  rw [Bool.and_eq_true]; exact ⟨by simpa using h124, by simpa using h10⟩)
                clear h124 h10 hget
                go_wp2_with fail
                go_round
                case rel => exact ⟨j + 1, by omega, by omega, by go_num, hsc.out.trans hzz.out⟩
                case measure => simp [intOf]; omega
          · have j2 : (s.size : Int) - 1 ≤ (j : Int) := by omega
            have hje : j = s.size - 1 := by omega
            have HJ : Aside0 (scan notBar s.data.toList 1 = s.size - 1) := ⟨by rw [hsc.out, hje]; exact HE.out⟩
            clear hje
            go_wp2_with fail
            go_returns
            exact ⟨by rw [HV.out, HJ.out]; simp, 0, rfl⟩
      · have e1' : (((s[s.size - 1]'(by omega)).toNat : Int) != 124) = true := by
          rw [show (((s[s.size - 1]'(by omega)).toNat : Int) != 124) = !(((s[s.size - 1]'(by omega)).toNat : Int) == 124) from rfl, ne_int124 h1]; rfl
        have HV : Aside0 (wordB s.data.toList = false) := ⟨by
          rw [wordB_plain (by omega) (by rintro ⟨_, _, b⟩; rw [hg1] at b; exact h1 (Option.some.inj b)), hsc0, beq_eq_false_iff_ne]; omega⟩
        clear hg0 hg1 h0 h1 hsc0
        go_enter Tryz.func69, Tryz.ntmps69
        go_wp2_with fail
        go_returns
        exact ⟨by rw [HV.out]; rfl, 0, rfl⟩
    · have i2 : (s.size : Int) < 2 := by omega
      have HV : Aside0 (wordB s.data.toList = false) := ⟨by
        rw [wordB_plain (by omega) (by rintro ⟨a, _, _⟩; omega), hsc0, beq_eq_false_iff_ne]; omega⟩
      clear hg0 h0 hsc0
      go_enter Tryz.func69, Tryz.ntmps69
      go_wp2_with fail
      go_returns
      exact ⟨by rw [HV.out]; rfl, 0, rfl⟩
  · have e0 : (((s[0]'(by omega)).toNat : Int) == 124) = false := ne_int124 h0
    have HV : Aside0 (wordB s.data.toList = (scan plainB s.data.toList 0 == s.size)) := ⟨wordB_plain (by omega) (by rintro ⟨_, b, _⟩; rw [hg0] at b; exact h0 (Option.some.inj b))⟩
    clear hg0 h0
    go_enter Tryz.func69, Tryz.ntmps69
    go_wp2_with fail
    go_loopw [4] (fun v wr => ∃ j : Nat, j ≤ s.size ∧ v = .int .i64 (j : Int) ∧ Hid (scan plainB s.data.toList 0 = scan plainB s.data.toList j) ∧ ∃ n, wr = w.drewN n) (fun v _ => s.size - (intOf v).toNat)
    case atStart => exact ⟨0, Nat.zero_le _, rfl, rfl, 0, rfl⟩
    case round =>
      obtain ⟨j, hj, rfl, hsc, n0, rfl⟩ := hrel
      by_cases hlt : j < s.size
      · have j0 : (0 : Int) ≤ (j : Int) := by omega
        have j1 : (j : Int) < (s.size : Int) := by omega
        have hget : s.data.toList[j]'(by omega) = s[j]'(by omega) := rfl
        cases hp : plainB (s[j]'(by omega)) with
        | true =>
          have hzz : Hid (scan plainB s.data.toList j = scan plainB s.data.toList (j + 1)) := scan_yes plainB _ j (by omega) (by rw [hget]; exact hp)
          have HP := Aside0.mk hp
          clear hp hget
          go_wp2_with fail
          refine (In_any.calls _ _).mono ?_
          rintro e w1 ⟨rfl, n1, rfl⟩
          rw [HP.out]
          go_wp2_with fail
          go_roundw
          case rel => exact ⟨j + 1, by omega, by go_num, hsc.out.trans hzz.out, _, rfl⟩
          case measure => simp [intOf]; omega
        | false =>
          have hzz : Hid (scan plainB s.data.toList j = j) := scan_no plainB _ j (by omega) (by rw [hget]; exact hp)
          have HP := Aside0.mk hp
          clear hp hget
          go_wp2_with fail
          refine (In_any.calls _ _).mono ?_
          rintro e w1 ⟨rfl, n1, rfl⟩
          rw [HP.out]
          go_wp2_with fail
          go_returns
          exact ⟨by rw [HV.out, hsc.out, hzz.out, show (j == s.size) = false by rw [beq_eq_false_iff_ne]; omega]; rfl, _, rfl⟩
      · have j1 : (s.size : Int) ≤ (j : Int) := by omega
        have hje : j = s.size := by omega
        have hzz : Hid (scan plainB s.data.toList j = s.size) := by
          show _ = _
          rw [scan_end plainB _ j (by omega), hje]
        clear hje
        go_wp2_with fail
        go_returns
        exact ⟨by rw [HV.out, hsc.out, hzz.out]; simp, _, rfl⟩
end Go.Proofs.YthhnhbpmpdminaaGreatDoor
