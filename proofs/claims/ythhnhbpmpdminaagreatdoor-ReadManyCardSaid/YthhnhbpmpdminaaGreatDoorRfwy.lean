/-
The reference's word: where the word that begins at a place ends. Conditions: the place lies in the text; the text's length.
-/
import Derived.Test.YthhnhbpmpdminaaGreatDoorRfay
namespace Go.Proofs.YthhnhbpmpdminaaGreatDoor
set_option maxRecDepth 4096
open Go.RowKit Go.Proofs.YthhnhbpmpdminaaGreatDoorW.PrintWords

theorem eq_int {b : UInt8} (k : UInt8) : ((b.toNat : Int) == (k.toNat : Int)) = (b == k) := by
  rw [Bool.eq_iff_iff, beq_iff_eq, beq_iff_eq]
  exact ⟨fun h => UInt8.toNat_inj.1 (by omega), fun h => by rw [h]⟩

theorem ne_int124 {b : UInt8} (h : b ≠ 124) : ((b.toNat : Int) == 124) = false := by
  have := eq_int (b := b) 124
  rw [show ((b.toNat : Int) == 124) = ((b.toNat : Int) == ((124 : UInt8).toNat : Int)) from rfl, this]
  simpa using h

def wordBarV (t : List UInt8) (i : Nat) : Value := if t[scan notBar t (i + 1)]? = some 124 then .tuple #[.int .i64 ((scan notBar t (i + 1) + 1 : Nat) : Int), .bool true] else .tuple #[.int .i64 0, .bool false]

set_option maxHeartbeats 1000000 in
theorem word_bar (s : ByteArray) (i : Nat) (w : World) (hi : i < s.size) (hs : s.size ≤ 100000) (hb : s[i] = 124) :
    Calls Tryz.prog 104 #[.string s, .int .i64 (i : Int)] w fun e w' => e = .returned (wordBarV s.data.toList i) ∧ w' = w := by
  have hl : s.data.toList.length = s.size := by rw [Array.length_toList]; rfl
  have i0 : (0 : Int) ≤ (i : Int) := by omega
  have i1 : (i : Int) < (s.size : Int) := by omega
  have hb2 : ((s[i].toNat : Int) == 124) = true := by rw [hb]; rfl
  clear hb
  go_enter Tryz.func104, Tryz.ntmps104
  go_wp2_with fail
  go_loop [6] (fun v => ∃ j : Nat, i + 1 ≤ j ∧ j ≤ s.size ∧ v = .int .i64 (j : Int) ∧ Hid (scan notBar s.data.toList (i + 1) = scan notBar s.data.toList j)) (fun v => s.size - (intOf v).toNat)
  case atStart => exact ⟨i + 1, Nat.le_refl _, by omega, by go_num, rfl⟩
  case round =>
    obtain ⟨j, hij, hj, rfl, hsc⟩ := hrel
    by_cases hlt : j < s.size
    · have j0 : (0 : Int) ≤ (j : Int) := by omega
      have j1 : (j : Int) < (s.size : Int) := by omega
      have hget : s.data.toList[j]'(by omega) = s[j] := rfl
      by_cases h10 : s[j] = 10
      · have hz : Hid (scan notBar s.data.toList j = j) := scan_no notBar _ j (by omega) (by rw [hget, h10]; rfl)
        have hn : Aside0 (¬ s.data.toList[scan notBar s.data.toList (i + 1)]? = some 124) := ⟨by
          rw [hsc.out, hz.out, List.getElem?_eq_getElem (by omega), hget, h10]; decide⟩
        have e1 : ((s[j].toNat : Int) != 10) = false := by rw [h10]; rfl
        clear h10 hget
        go_wp2_with fail
        go_returns
        exact ⟨by unfold wordBarV; rw [if_neg hn.out]; rfl, rfl⟩
      · have e1 : ((s[j].toNat : Int) != 10) = true := by
          have := eq_int (b := s[j]) 10
          rw [show ((s[j].toNat : Int) != 10) = !((s[j].toNat : Int) == 10) from rfl]
          rw [show ((s[j].toNat : Int) == 10) = ((s[j].toNat : Int) == ((10 : UInt8).toNat : Int)) from rfl, this]
          simpa using h10
        by_cases h124 : s[j] = 124
        · have hz : Hid (scan notBar s.data.toList j = j) := scan_no notBar _ j (by omega) (by rw [hget, h124]; rfl)
          have hn : Aside0 (s.data.toList[scan notBar s.data.toList (i + 1)]? = some 124) := ⟨by
            rw [hsc.out, hz.out, List.getElem?_eq_getElem (by omega), hget, h124]⟩
          have hq : Aside0 (scan notBar s.data.toList (i + 1) = j) := ⟨hsc.out.trans hz.out⟩
          have e2 : ((s[j].toNat : Int) == 124) = true := by rw [h124]; rfl
          clear h124 h10 hget
          go_wp2_with fail
          go_returns
          exact ⟨by unfold wordBarV; rw [if_pos hn.out, hq.out]; rfl, rfl⟩
        · have e2 : ((s[j].toNat : Int) == 124) = false := ne_int124 h124
          have hz : Hid (scan notBar s.data.toList j = scan notBar s.data.toList (j + 1)) := scan_yes notBar _ j (by omega) (by
            rw [hget]; unfold notBar
            rw [Bool.and_eq_true]; exact ⟨by simpa using h124, by simpa using h10⟩)
          clear h124 h10 hget
          go_wp2_with fail
          go_round
          case rel => exact ⟨j + 1, by omega, by omega, by go_num, hsc.out.trans hz.out⟩
          case measure => simp [intOf]; omega
    · have hz : Hid (scan notBar s.data.toList j = j) := scan_end notBar _ j (by omega)
      have hn : Aside0 (¬ s.data.toList[scan notBar s.data.toList (i + 1)]? = some 124) := ⟨by
        rw [hsc.out, hz.out, List.getElem?_eq_none (by omega)]; simp⟩
      go_wp2_with fail
      go_returns
      exact ⟨by unfold wordBarV; rw [if_neg hn.out]; rfl, rfl⟩

set_option maxHeartbeats 1000000 in
theorem word_plain (s : ByteArray) (i : Nat) (w : World) (hi : i < s.size) (hs : s.size ≤ 100000) (hb : s[i] ≠ 124) :
    Calls Tryz.prog 104 #[.string s, .int .i64 (i : Int)] w fun e w' => e = .returned (.tuple #[.int .i64 ((scan plainB s.data.toList i : Nat) : Int), .bool (plainB s[i])]) ∧ ∃ n, w' = w.drewN n := by
  have hl : s.data.toList.length = s.size := by rw [Array.length_toList]; rfl
  have i0 : (0 : Int) ≤ (i : Int) := by omega
  have i1 : (i : Int) < (s.size : Int) := by omega
  have hb2 : ((s[i].toNat : Int) == 124) = false := ne_int124 hb
  clear hb
  have hfin : Aside0 (∀ j : Nat, scan plainB s.data.toList i = j → decide (i < j) = plainB s[i]) := ⟨fun j hj => by
    have hget : s.data.toList[i]'(by omega) = s[i] := rfl
    cases hp : plainB s[i] with
    | true =>
      have := scan_yes plainB s.data.toList i (by omega) (by rw [hget]; exact hp)
      have h2 := scan_ge plainB s.data.toList (i + 1)
      simp; omega
    | false =>
      have := scan_no plainB s.data.toList i (by omega) (by rw [hget]; exact hp)
      simp; omega⟩
  go_enter Tryz.func104, Tryz.ntmps104
  go_wp2_with fail
  go_loopw [7] (fun v wr => ∃ j : Nat, i ≤ j ∧ j ≤ s.size ∧ v = .int .i64 (j : Int) ∧ Hid (scan plainB s.data.toList i = scan plainB s.data.toList j) ∧ ∃ n, wr = w.drewN n) (fun v _ => s.size - (intOf v).toNat)
  case atStart => exact ⟨i, Nat.le_refl _, by omega, rfl, rfl, 0, rfl⟩
  case round =>
    obtain ⟨j, hij, hj, rfl, hsc, n0, rfl⟩ := hrel
    by_cases hlt : j < s.size
    · have j0 : (0 : Int) ≤ (j : Int) := by omega
      have j1 : (j : Int) < (s.size : Int) := by omega
      have hget : s.data.toList[j]'(by omega) = s[j] := rfl
      cases hp : plainB s[j] with
      | true =>
        have hz : Hid (scan plainB s.data.toList j = scan plainB s.data.toList (j + 1)) := scan_yes plainB _ j (by omega) (by rw [hget]; exact hp)
        have HP := Aside0.mk hp
        clear hp hget
        go_wp2_with fail
        refine (In_any.calls s[j] _).mono ?_
        rintro e w1 ⟨rfl, n1, rfl⟩
        rw [HP.out]
        go_wp2_with fail
        go_roundw
        case rel => exact ⟨j + 1, by omega, by omega, by go_num, hsc.out.trans hz.out, _, rfl⟩
        case measure => simp [intOf]; omega
      | false =>
        have hz : Hid (scan plainB s.data.toList j = j) := scan_no plainB _ j (by omega) (by rw [hget]; exact hp)
        have HP := Aside0.mk hp
        clear hp hget
        go_wp2_with fail
        refine (In_any.calls s[j] _).mono ?_
        rintro e w1 ⟨rfl, n1, rfl⟩
        rw [HP.out]
        go_wp2_with fail
        go_returns
        exact ⟨by rw [hsc.out, hz.out, ← hfin.out j (hsc.out.trans hz.out)]; rfl, _, rfl⟩
    · have hz : Hid (scan plainB s.data.toList j = j) := scan_end plainB _ j (by omega)
      go_wp2_with fail
      go_returns
      exact ⟨by rw [hsc.out, hz.out, ← hfin.out j (hsc.out.trans hz.out)]; rfl, _, rfl⟩
end Go.Proofs.YthhnhbpmpdminaaGreatDoor
