/-
Several texts as one: Tsy Rfay Rfwy Wrdy Rwdy.
-/
import Derived.Test.YthhnhbpmpdminaaGreatDoorXE
import Derived.Lib.IndexAny
/-
The tests of a byte that package sexp calls: blank, plain. Conditions: none.
-/
namespace Go.Proofs.YthhnhbpmpdminaaGreatDoor
set_option maxRecDepth 4096
open Go.RowKit Go.Proofs.YthhnhbpmpdminaaGreatDoorW.PrintWords
theorem IndexByte_any (s : ByteArray) (c : Int) (w : World) : Calls Tryz.prog 190 #[.string s, .int .u8 c] w fun e w' => e = .returned (.int .i64 (Lib.indexByte s.data.toList c.toNat.toUInt8)) ∧ w' = w := by
  have hix : ∀ (w : World), (callFunc 258 #[.string s, .int .u8 c]).run Tryz.prog w = .ok (.value (.int .i64 (Lib.indexByte s.data.toList c.toNat.toUInt8))) w := fun w => by
    rw [run_callFunc_extern Tryz.func258 (by kernel_rfl) (by kernel_rfl) (by kernel_rfl) (e := Extern.BytealgIndexByte.indexByte) (by kernel_rfl), Lib.run_indexByteString]
    rfl
  go_enter Tryz.func190, Tryz.ntmps190
  go_wp2_with go_in
  go_wp2
  go_returns
  exact ⟨rfl, rfl⟩
theorem blankB_int (b : UInt8) : blankB b = ((b.toNat : Int) == 32 || (b.toNat : Int) == 9 || (b.toNat : Int) == 10 || (b.toNat : Int) == 13) := by
  have h : ∀ k : UInt8, ((b.toNat : Int) == (k.toNat : Int)) = (b == k) := fun k => by
    rw [Bool.eq_iff_iff, beq_iff_eq, beq_iff_eq]
    exact ⟨fun h => UInt8.toNat_inj.1 (by omega), fun h => by rw [h]⟩
  unfold blankB
  rw [← h 32, ← h 9, ← h 10, ← h 13]
  rfl
theorem plainB_in (b : UInt8) (h : (97 ≤ b.toNat ∧ b.toNat ≤ 122) ∨ (65 ≤ b.toNat ∧ b.toNat ≤ 90) ∨ (48 ≤ b.toNat ∧ b.toNat ≤ 57)) : plainB b = true := by
  unfold plainB
  have e : ∀ x y : UInt8, (x.toNat ≤ b.toNat ∧ b.toNat ≤ y.toNat) → (x ≤ b && b ≤ y) = true := fun x y h => by simp [UInt8.le_iff_toNat_le, h]
  rcases h with h | h | h
  · rw [e 97 122 h]; simp
  · rw [e 65 90 h]; simp
  · rw [e 48 57 h]; simp
theorem plainB_out (b : UInt8) (h : ¬ ((97 ≤ b.toNat ∧ b.toNat ≤ 122) ∨ (65 ≤ b.toNat ∧ b.toNat ≤ 90) ∨ (48 ≤ b.toNat ∧ b.toNat ≤ 57))) :
    plainB b = decide (0 ≤ Lib.indexByte [126, 33, 64, 36, 37, 94, 38, 42, 95, 45, 43, 61, 60, 62, 46, 63, 47, 35, 58, 39, 44] b) := by
  unfold plainB
  have e : ∀ x y : UInt8, ¬ (x.toNat ≤ b.toNat ∧ b.toNat ≤ y.toNat) → (x ≤ b && b ≤ y) = false := fun x y h => by
    rw [Bool.eq_false_iff]; intro h'; simp [UInt8.le_iff_toNat_le] at h'; exact h h'
  rw [e 97 122 (fun q => h (.inl q)), e 65 90 (fun q => h (.inr (.inl q))), e 48 57 (fun q => h (.inr (.inr q))), ← Lib.contains_iff_indexByte]
  rfl
theorem plain_any : TestFn 138 plainB := ⟨fun args w => enters Tryz.func138 (by kernel_rfl) (by kernel_rfl) args w, fun b w => by
  have hb : (b.toNat : Int) < 256 := by have := b.toNat_lt; omega
  by_cases hin : (97 ≤ b.toNat ∧ b.toNat ≤ 122) ∨ (65 ≤ b.toNat ∧ b.toNat ≤ 90) ∨ (48 ≤ b.toNat ∧ b.toNat ≤ 57)
  · rw [plainB_in b hin]
    rcases hin with ⟨h1, h2⟩ | ⟨h1, h2⟩ | ⟨h1, h2⟩
    all_goals
      have g1 : (b.toNat : Int) ≥ 48 := by omega
      have g2 : (b.toNat : Int) ≤ 122 := by omega
      (try have g3 : (b.toNat : Int) ≥ 97 := by omega)
      (try have g3 : (b.toNat : Int) ≥ 65 := by omega)
      (try have g4 : (b.toNat : Int) ≤ 90 := by omega)
      (try have g5 : (b.toNat : Int) ≤ 57 := by omega)
      clear h1 h2
      go_enter Tryz.func138, Tryz.ntmps138
      go_wp2
      go_ret
      exact ⟨rfl, 0, rfl⟩
  · rw [plainB_out b hin]
    have H : ∀ (w : World), Calls Tryz.prog 190 #[.string ⟨#[126, 33, 64, 36, 37, 94, 38, 42, 95, 45, 43, 61, 60, 62, 46, 63, 47, 35, 58, 39, 44]⟩, .int .u8 (b.toNat : Int)] w fun e w' => e = .returned (.int .i64 (Lib.indexByte [126, 33, 64, 36, 37, 94, 38, 42, 95, 45, 43, 61, 60, 62, 46, 63, 47, 35, 58, 39, 44] b)) ∧ w' = w := fun w => by
      have := IndexByte_any ⟨#[126, 33, 64, 36, 37, 94, 38, 42, 95, 45, 43, 61, 60, 62, 46, 63, 47, 35, 58, 39, 44]⟩ (b.toNat : Int) w
      rw [show ((b.toNat : Int).toNat.toUInt8) = b by simp] at this
      exact this
    have HH := Aside0.mk H
    clear H
    have cases : (b.toNat : Int) < 48 ∨ (57 < (b.toNat : Int) ∧ (b.toNat : Int) < 65) ∨ (90 < (b.toNat : Int) ∧ (b.toNat : Int) < 97) ∨ 122 < (b.toNat : Int) := by omega
    clear hin
    rcases cases with h | ⟨h1, h2⟩ | ⟨h1, h2⟩ | h
    all_goals
      (try have d1 : decide ((b.toNat : Int) ≤ 57) = false := by simp; omega)
      (try have d2 : decide ((b.toNat : Int) ≤ 90) = false := by simp; omega)
      (try have d3 : decide ((b.toNat : Int) ≤ 122) = false := by simp; omega)
      go_enter Tryz.func138, Tryz.ntmps138
      go_wp2_with fail
      refine (HH.out _).mono ?_
      rintro e w1 ⟨rfl, rfl⟩
      go_wp2_with fail
      go_returns
      exact ⟨rfl, 0, rfl⟩⟩
end Go.Proofs.YthhnhbpmpdminaaGreatDoor
/-
The reference's tests of a byte, and its word. Conditions: the text's length.
-/
namespace Go.Proofs.YthhnhbpmpdminaaGreatDoor
set_option maxRecDepth 4096
open Go.RowKit Go.Proofs.YthhnhbpmpdminaaGreatDoorW.PrintWords
theorem rblank_any : TestFn 103 blankB := ⟨fun args w => enters Tryz.func103 (by kernel_rfl) (by kernel_rfl) args w, fun b w => by
  rw [blankB_int]
  by_cases h1 : (b.toNat : Int) = 32
  · rw [h1]
    go_enter Tryz.func103, Tryz.ntmps103
    go_wp2
    go_ret
    exact ⟨rfl, 0, rfl⟩
  · have e1 : ((b.toNat : Int) == 32) = false := by simpa using h1
    rw [e1]
    by_cases h2 : (b.toNat : Int) = 9
    · rw [h2]
      go_enter Tryz.func103, Tryz.ntmps103
      go_wp2
      go_ret
      exact ⟨rfl, 0, rfl⟩
    · have e2 : ((b.toNat : Int) == 9) = false := by simpa using h2
      rw [e2]
      by_cases h3 : (b.toNat : Int) = 10
      · rw [h3]
        go_enter Tryz.func103, Tryz.ntmps103
        go_wp2
        go_ret
        exact ⟨rfl, 0, rfl⟩
      · have e3 : ((b.toNat : Int) == 10) = false := by simpa using h3
        rw [e3]
        go_enter Tryz.func103, Tryz.ntmps103
        go_wp2
        go_ret
        exact ⟨rfl, 0, rfl⟩⟩
set_option maxHeartbeats 4000000 in
theorem In_any : TestFn 97 plainB := ⟨fun args w => enters Tryz.func97 (by kernel_rfl) (by kernel_rfl) args w, fun b w => by
  have hb : (b.toNat : Int) < 256 := by have := b.toNat_lt; omega
  by_cases hin : (97 ≤ b.toNat ∧ b.toNat ≤ 122) ∨ (65 ≤ b.toNat ∧ b.toNat ≤ 90) ∨ (48 ≤ b.toNat ∧ b.toNat ≤ 57)
  · rw [plainB_in b hin]
    rcases hin with ⟨h1, h2⟩ | ⟨h1, h2⟩ | ⟨h1, h2⟩
    all_goals
      have g1 : (b.toNat : Int) ≥ 48 := by omega
      have g2 : (b.toNat : Int) ≤ 122 := by omega
      (try have g3 : (b.toNat : Int) ≥ 97 := by omega)
      (try have g3 : (b.toNat : Int) ≥ 65 := by omega)
      (try have g4 : (b.toNat : Int) ≤ 90 := by omega)
      (try have g5 : (b.toNat : Int) ≤ 57 := by omega)
      clear h1 h2
      go_enter Tryz.func97, Tryz.ntmps97
      go_wp2
      go_ret
      exact ⟨rfl, 0, rfl⟩
  · by_cases hl : b ∈ ([126, 33, 64, 36, 37, 94, 38, 42, 95, 45, 43, 61, 60, 62, 46, 63, 47, 35, 58, 39, 44] : List UInt8)
    · have hp : plainB b = true := by unfold plainB; rw [Bool.or_eq_true]; right; simpa using hl
      rw [hp]
      clear hp hin hb
      simp only [List.mem_cons, List.not_mem_nil, or_false] at hl
      rcases hl with rfl | rfl | rfl | rfl | rfl | rfl | rfl | rfl | rfl | rfl | rfl | rfl | rfl | rfl | rfl | rfl | rfl | rfl | rfl | rfl | rfl
      all_goals
        go_enter Tryz.func97, Tryz.ntmps97
        go_wp2
        go_ret
        exact ⟨rfl, 0, rfl⟩
    · have hp : plainB b = false := by
        unfold plainB
        have e : ∀ x y : UInt8, ¬ (x.toNat ≤ b.toNat ∧ b.toNat ≤ y.toNat) → (x ≤ b && b ≤ y) = false := fun x y h => by
          rw [Bool.eq_false_iff]; intro h'; simp [UInt8.le_iff_toNat_le] at h'; exact h h'
        rw [e 97 122 (fun q => hin (.inl q)), e 65 90 (fun q => hin (.inr (.inl q))), e 48 57 (fun q => hin (.inr (.inr q)))]
        simpa using hl
      rw [hp]
      have cases : (b.toNat : Int) < 48 ∨ (57 < (b.toNat : Int) ∧ (b.toNat : Int) < 65) ∨ (90 < (b.toNat : Int) ∧ (b.toNat : Int) < 97) ∨ 122 < (b.toNat : Int) := by omega
      have ne : ∀ k : UInt8, k ∈ ([126, 33, 64, 36, 37, 94, 38, 42, 95, 45, 43, 61, 60, 62, 46, 63, 47, 35, 58, 39, 44] : List UInt8) → ((b.toNat : Int) == (k.toNat : Int)) = false := fun k hk => by
        rw [beq_eq_false_iff_ne]; intro e; exact hl (UInt8.toNat_inj.1 (by omega : b.toNat = k.toNat) ▸ hk)
      have e1 := ne 126 (by decide)
      have e2 := ne 33 (by decide)
      have e3 := ne 64 (by decide)
      have e4 := ne 36 (by decide)
      have e5 := ne 37 (by decide)
      have e6 := ne 94 (by decide)
      have e7 := ne 38 (by decide)
      have e8 := ne 42 (by decide)
      have e9 := ne 95 (by decide)
      have e10 := ne 45 (by decide)
      have e11 := ne 43 (by decide)
      have e12 := ne 61 (by decide)
      have e13 := ne 60 (by decide)
      have e14 := ne 62 (by decide)
      have e15 := ne 46 (by decide)
      have e16 := ne 63 (by decide)
      have e17 := ne 47 (by decide)
      have e18 := ne 35 (by decide)
      have e19 := ne 58 (by decide)
      have e20 := ne 39 (by decide)
      have e21 := ne 44 (by decide)
      simp only [UInt8.reduceToNat, Int.cast_ofNat_Int] at e1 e2 e3 e4 e5 e6 e7 e8 e9 e10 e11 e12 e13 e14 e15 e16 e17 e18 e19 e20 e21
      clear ne hl hp hin
      rcases cases with h | ⟨h1, h2⟩ | ⟨h1, h2⟩ | h
      all_goals
        (try have d1 : decide ((b.toNat : Int) ≤ 57) = false := by simp; omega)
        (try have d2 : decide ((b.toNat : Int) ≤ 90) = false := by simp; omega)
        (try have d3 : decide ((b.toNat : Int) ≤ 122) = false := by simp; omega)
        go_enter Tryz.func97, Tryz.ntmps97
        go_wp2
        go_ret
        exact ⟨rfl, 0, rfl⟩⟩
end Go.Proofs.YthhnhbpmpdminaaGreatDoor
/-
The reference's word: where the word that begins at a place ends. Conditions: the place lies in the text; the text's length.
-/
namespace Go.Proofs.YthhnhbpmpdminaaGreatDoor
set_option maxRecDepth 4096
open Go.RowKit Go.Proofs.YthhnhbpmpdminaaGreatDoorW.PrintWords
theorem eq_int {b : UInt8} (k : UInt8) : ((b.toNat : Int) == (k.toNat : Int)) = (b == k) := by
  rw [Bool.eq_iff_iff, beq_iff_eq, beq_iff_eq]
  exact ⟨fun h => UInt8.toNat_inj.1 (by omega), fun h => by rw [h]⟩
theorem ne_int124 {b : UInt8} (h : b ≠ 124) : ((b.toNat : Int) == 124) = false := by
  have := eq_int (b := b) 124
  rw [show ((b.toNat : Int) == 124) = ((b.toNat : Int) == ((124 : UInt8).toNat : Int)) from rfl, this]
  simpa using h
def wordBarV (t : List UInt8) (i : Nat) : Value := if t[scan notBar t (i + 1)]? = some 124 then .tuple #[.int .i64 ((scan notBar t (i + 1) + 1 : Nat) : Int), .bool true] else .tuple #[.int .i64 0, .bool false]
set_option maxHeartbeats 1000000 in
theorem word_bar (s : ByteArray) (i : Nat) (w : World) (hi : i < s.size) (hs : s.size ≤ 100000) (hb : s[i] = 124) :
    Calls Tryz.prog 104 #[.string s, .int .i64 (i : Int)] w fun e w' => e = .returned (wordBarV s.data.toList i) ∧ w' = w := by
  have hl : s.data.toList.length = s.size := by rw [Array.length_toList]; rfl
  have i0 : (0 : Int) ≤ (i : Int) := by omega
  have i1 : (i : Int) < (s.size : Int) := by omega
  have hb2 : ((s[i].toNat : Int) == 124) = true := by rw [hb]; rfl
  clear hb
  go_enter Tryz.func104, Tryz.ntmps104
  go_wp2_with fail
  go_loop [6] (fun v => ∃ j : Nat, i + 1 ≤ j ∧ j ≤ s.size ∧ v = .int .i64 (j : Int) ∧ Hid (scan notBar s.data.toList (i + 1) = scan notBar s.data.toList j)) (fun v => s.size - (intOf v).toNat)
  case atStart => exact ⟨i + 1, Nat.le_refl _, by omega, by go_num, rfl⟩
  case round =>
    obtain ⟨j, hij, hj, rfl, hsc⟩ := hrel
    by_cases hlt : j < s.size
    · have j0 : (0 : Int) ≤ (j : Int) := by omega
      have j1 : (j : Int) < (s.size : Int) := by omega
      have hget : s.data.toList[j]'(by omega) = s[j] := rfl
      by_cases h10 : s[j] = 10
      · have hz : Hid (scan notBar s.data.toList j = j) := scan_no notBar _ j (by omega) (by rw [hget, h10]; rfl)
        have hn : Aside0 (¬ s.data.toList[scan notBar s.data.toList (i + 1)]? = some 124) := ⟨by
          rw [hsc.out, hz.out, List.getElem?_eq_getElem (by omega), hget, h10]; decide⟩
        have e1 : ((s[j].toNat : Int) != 10) = false := by rw [h10]; rfl
        clear h10 hget
        go_wp2_with fail
        go_returns
        exact ⟨by unfold wordBarV; rw [if_neg hn.out]; rfl, rfl⟩
      · have e1 : ((s[j].toNat : Int) != 10) = true := by
          have := eq_int (b := s[j]) 10
          rw [show ((s[j].toNat : Int) != 10) = !((s[j].toNat : Int) == 10) from rfl]
          rw [show ((s[j].toNat : Int) == 10) = ((s[j].toNat : Int) == ((10 : UInt8).toNat : Int)) from rfl, this]
          simpa using h10
        by_cases h124 : s[j] = 124
        · have hz : Hid (scan notBar s.data.toList j = j) := scan_no notBar _ j (by omega) (by rw [hget, h124]; rfl)
          have hn : Aside0 (s.data.toList[scan notBar s.data.toList (i + 1)]? = some 124) := ⟨by
            rw [hsc.out, hz.out, List.getElem?_eq_getElem (by omega), hget, h124]⟩
          have hq : Aside0 (scan notBar s.data.toList (i + 1) = j) := ⟨hsc.out.trans hz.out⟩
          have e2 : ((s[j].toNat : Int) == 124) = true := by rw [h124]; rfl
          clear h124 h10 hget
          go_wp2_with fail
          go_returns
          exact ⟨by unfold wordBarV; rw [if_pos hn.out, hq.out]; rfl, rfl⟩
        · have e2 : ((s[j].toNat : Int) == 124) = false := ne_int124 h124
          have hz : Hid (scan notBar s.data.toList j = scan notBar s.data.toList (j + 1)) := scan_yes notBar _ j (by omega) (by
            rw [hget]; unfold notBar
            rw [Bool.and_eq_true]; exact ⟨by simpa using h124, by simpa using h10⟩)
          clear h124 h10 hget
          go_wp2_with fail
          go_round
          case rel => exact ⟨j + 1, by omega, by omega, by go_num, hsc.out.trans hz.out⟩
          case measure => simp [intOf]; omega
    · have hz : Hid (scan notBar s.data.toList j = j) := scan_end notBar _ j (by omega)
      have hn : Aside0 (¬ s.data.toList[scan notBar s.data.toList (i + 1)]? = some 124) := ⟨by
        rw [hsc.out, hz.out, List.getElem?_eq_none (by omega)]; simp⟩
      go_wp2_with fail
      go_returns
      exact ⟨by unfold wordBarV; rw [if_neg hn.out]; rfl, rfl⟩
set_option maxHeartbeats 1000000 in
theorem word_plain (s : ByteArray) (i : Nat) (w : World) (hi : i < s.size) (hs : s.size ≤ 100000) (hb : s[i] ≠ 124) :
    Calls Tryz.prog 104 #[.string s, .int .i64 (i : Int)] w fun e w' => e = .returned (.tuple #[.int .i64 ((scan plainB s.data.toList i : Nat) : Int), .bool (plainB s[i])]) ∧ ∃ n, w' = w.drewN n := by
  have hl : s.data.toList.length = s.size := by rw [Array.length_toList]; rfl
  have i0 : (0 : Int) ≤ (i : Int) := by omega
  have i1 : (i : Int) < (s.size : Int) := by omega
  have hb2 : ((s[i].toNat : Int) == 124) = false := ne_int124 hb
  clear hb
  have hfin : Aside0 (∀ j : Nat, scan plainB s.data.toList i = j → decide (i < j) = plainB s[i]) := ⟨fun j hj => by
    have hget : s.data.toList[i]'(by omega) = s[i] := rfl
    cases hp : plainB s[i] with
    | true =>
      have := scan_yes plainB s.data.toList i (by omega) (by rw [hget]; exact hp)
      have h2 := scan_ge plainB s.data.toList (i + 1)
      simp; omega
    | false =>
      have := scan_no plainB s.data.toList i (by omega) (by rw [hget]; exact hp)
      simp; omega⟩
  go_enter Tryz.func104, Tryz.ntmps104
  go_wp2_with fail
  go_loopw [7] (fun v wr => ∃ j : Nat, i ≤ j ∧ j ≤ s.size ∧ v = .int .i64 (j : Int) ∧ Hid (scan plainB s.data.toList i = scan plainB s.data.toList j) ∧ ∃ n, wr = w.drewN n) (fun v _ => s.size - (intOf v).toNat)
  case atStart => exact ⟨i, Nat.le_refl _, by omega, rfl, rfl, 0, rfl⟩
  case round =>
    obtain ⟨j, hij, hj, rfl, hsc, n0, rfl⟩ := hrel
    by_cases hlt : j < s.size
    · have j0 : (0 : Int) ≤ (j : Int) := by omega
      have j1 : (j : Int) < (s.size : Int) := by omega
      have hget : s.data.toList[j]'(by omega) = s[j] := rfl
      cases hp : plainB s[j] with
      | true =>
        have hz : Hid (scan plainB s.data.toList j = scan plainB s.data.toList (j + 1)) := scan_yes plainB _ j (by omega) (by rw [hget]; exact hp)
        have HP := Aside0.mk hp
        clear hp hget
        go_wp2_with fail
        refine (In_any.calls s[j] _).mono ?_
        rintro e w1 ⟨rfl, n1, rfl⟩
        rw [HP.out]
        go_wp2_with fail
        go_roundw
        case rel => exact ⟨j + 1, by omega, by omega, by go_num, hsc.out.trans hz.out, _, rfl⟩
        case measure => simp [intOf]; omega
      | false =>
        have hz : Hid (scan plainB s.data.toList j = j) := scan_no plainB _ j (by omega) (by rw [hget]; exact hp)
        have HP := Aside0.mk hp
        clear hp hget
        go_wp2_with fail
        refine (In_any.calls s[j] _).mono ?_
        rintro e w1 ⟨rfl, n1, rfl⟩
        rw [HP.out]
        go_wp2_with fail
        go_returns
        exact ⟨by rw [hsc.out, hz.out, ← hfin.out j (hsc.out.trans hz.out)]; rfl, _, rfl⟩
    · have hz : Hid (scan plainB s.data.toList j = j) := scan_end plainB _ j (by omega)
      go_wp2_with fail
      go_returns
      exact ⟨by rw [hsc.out, hz.out, ← hfin.out j (hsc.out.trans hz.out)]; rfl, _, rfl⟩
end Go.Proofs.YthhnhbpmpdminaaGreatDoor
/-
Is it a word: sexp.Word and the reference's. Conditions: how long the text is.
-/
namespace Go.Proofs.YthhnhbpmpdminaaGreatDoor
set_option maxRecDepth 4096
open Go.RowKit Go.Proofs.YthhnhbpmpdminaaGreatDoorW.PrintWords Go.Proofs.YthhnhbpmpdminaaGreatDoorW.PrintLast
def wordB (t : List UInt8) : Bool :=
  if 2 ≤ t.length ∧ t[0]? = some 124 ∧ t[t.length - 1]? = some 124 then scan notBar t 1 == t.length - 1 else !t.isEmpty && scan plainB t 0 == t.length
set_option maxHeartbeats 1000000 in
theorem sword_any (s : ByteArray) (w : World) (hs : s.size ≤ 9223372036854775807) :
    Calls Tryz.prog 95 #[.string s] w fun e w' => e = .returned (.bool (wordB s.data.toList)) ∧ Below w.heap.size w w' := by
  have hl : s.data.toList.length = s.size := by rw [Array.length_toList]; rfl
  by_cases h2 : 2 ≤ s.size
  · have hg0 : s.data.toList[0]? = some s[0] := List.getElem?_eq_some_iff.2 ⟨by omega, rfl⟩
    have hg1 : s.data.toList[s.size - 1]? = some s[s.size - 1] := List.getElem?_eq_some_iff.2 ⟨by omega, rfl⟩
    have i2 : (2 : Int) ≤ (s.size : Int) := by omega
    have i3 : (0 : Int) < (s.size : Int) := by omega
    by_cases h0 : s[0] = 124
    · have e0 : ((s[0].toNat : Int) == 124) = true := by rw [h0]; rfl
      by_cases h1 : s[s.size - 1] = 124
      · have e1 : ((s[s.size - 1].toNat : Int) == 124) = true := by rw [h1]; rfl
        have HV : Aside0 (wordB s.data.toList = (scan notBar s.data.toList 1 == s.size - 1)) := ⟨by
          unfold wordB; rw [hl, if_pos ⟨h2, by rw [hg0, h0], by rw [hg1, h1]⟩]⟩
        clear hg0 hg1 h0 h1
        go_enter Tryz.func95, Tryz.ntmps95
        go_wp2_with fail
        refine (while_any w.heap.size 227 notBar _ wordF_any s 1 [] _ (Cells.new w 227 [.string s, .int .i64 1]) (by omega) hs).mono ?_
        rintro e w1 ⟨rfl, hm, hc⟩
        have c1 := hc.cell 1 _ rfl
        have hbel : Below w.heap.size w w1 := (((Mod.refl (fun _ => False) w).alloc _).below).trans (hm.belowB (fun k hk => by omega) (by simp))
        clear hm hc
        go_wp2_with fail
        go_returns
        refine ⟨?_, hbel⟩
        rw [HV.out]
        exact congrArg (fun b => Ending.returned (.bool b)) (by rw [Bool.eq_iff_iff, beq_iff_eq, beq_iff_eq]; omega)
      · have e1 : ((s[s.size - 1].toNat : Int) == 124) = false := ne_int124 h1
        have hne : ¬ s.toList = [] := by
          rw [Lib.toList_data]; intro e; rw [e] at hl; simp at hl; omega
        have HV : Aside0 (wordB s.data.toList = (scan plainB s.data.toList 0 == s.size)) := ⟨by
          unfold wordB; rw [hl, if_neg (by rintro ⟨_, _, b⟩; rw [hg1] at b; exact h1 (Option.some.inj b))]
          rw [show s.data.toList.isEmpty = false by rw [List.isEmpty_eq_false_iff_exists_mem]; exact ⟨_, List.mem_of_getElem? hg0⟩]; simp⟩
        clear hg0 hg1 h0 h1
        go_enter Tryz.func95, Tryz.ntmps95
        go_wp2_with fail
        refine (while_any w.heap.size 227 plainB _ plain_any s 0 [] _ (Cells.new w 227 [.string s, .int .i64 0]) (by omega) hs).mono ?_
        rintro e w1 ⟨rfl, hm, hc⟩
        have c1 := hc.cell 1 _ rfl
        have hbel : Below w.heap.size w w1 := (((Mod.refl (fun _ => False) w).alloc _).below).trans (hm.belowB (fun k hk => by omega) (by simp))
        clear hm hc
        go_wp2_with fail
        go_returns
        refine ⟨?_, hbel⟩
        rw [HV.out]
        exact congrArg (fun b => Ending.returned (.bool b)) (by rw [List.isEmpty_eq_false_iff.2 hne, Bool.not_false, Bool.true_and, Bool.eq_iff_iff, beq_iff_eq, beq_iff_eq]; omega)
    · have e0 : ((s[0].toNat : Int) == 124) = false := ne_int124 h0
      have hne : ¬ s.toList = [] := by
        rw [Lib.toList_data]; intro e; rw [e] at hl; simp at hl; omega
      have HV : Aside0 (wordB s.data.toList = (scan plainB s.data.toList 0 == s.size)) := ⟨by
        unfold wordB; rw [hl, if_neg (by rintro ⟨_, b, _⟩; rw [hg0] at b; exact h0 (Option.some.inj b))]
        rw [show s.data.toList.isEmpty = false by rw [List.isEmpty_eq_false_iff_exists_mem]; exact ⟨_, List.mem_of_getElem? hg0⟩]; simp⟩
      clear hg0 hg1 h0
      go_enter Tryz.func95, Tryz.ntmps95
      go_wp2_with fail
      refine (while_any w.heap.size 227 plainB _ plain_any s 0 [] _ (Cells.new w 227 [.string s, .int .i64 0]) (by omega) hs).mono ?_
      rintro e w1 ⟨rfl, hm, hc⟩
      have c1 := hc.cell 1 _ rfl
      have hbel : Below w.heap.size w w1 := (((Mod.refl (fun _ => False) w).alloc _).below).trans (hm.belowB (fun k hk => by omega) (by simp))
      clear hm hc
      go_wp2_with fail
      go_returns
      refine ⟨?_, hbel⟩
      rw [HV.out]
      exact congrArg (fun b => Ending.returned (.bool b)) (by rw [List.isEmpty_eq_false_iff.2 hne, Bool.not_false, Bool.true_and, Bool.eq_iff_iff, beq_iff_eq, beq_iff_eq]; omega)
  · have i2 : ¬ (2 : Int) ≤ (s.size : Int) := by omega
    by_cases hz : s.size = 0
    · have hse : s = ⟨#[]⟩ := by apply ByteArray.ext; exact Array.eq_empty_of_size_eq_zero hz
      have HV : Aside0 (wordB s.data.toList = false) := ⟨by rw [hse]; rfl⟩
      have hne : s.toList = [] := by rw [Lib.toList_data, hse]
      clear hse
      go_enter Tryz.func95, Tryz.ntmps95
      go_wp2_with fail
      refine (while_any w.heap.size 227 plainB _ plain_any s 0 [] _ (Cells.new w 227 [.string s, .int .i64 0]) (by omega) hs).mono ?_
      rintro e w1 ⟨rfl, hm, hc⟩
      have c1 := hc.cell 1 _ rfl
      have hbel : Below w.heap.size w w1 := (((Mod.refl (fun _ => False) w).alloc _).below).trans (hm.belowB (fun k hk => by omega) (by simp))
      clear hm hc
      go_wp2_with fail
      go_returns
      exact ⟨by rw [HV.out]; rfl, hbel⟩
    · have hne : ¬ s.toList = [] := by
        rw [Lib.toList_data]; intro e; rw [e] at hl; simp at hl; omega
      have HV : Aside0 (wordB s.data.toList = (scan plainB s.data.toList 0 == s.size)) := ⟨by
        unfold wordB; rw [hl, if_neg (by rintro ⟨a, _, _⟩; omega)]
        rw [show s.data.toList.isEmpty = false by rw [List.isEmpty_eq_false_iff]; intro e; rw [e] at hl; simp at hl; omega]; simp⟩
      go_enter Tryz.func95, Tryz.ntmps95
      go_wp2_with fail
      refine (while_any w.heap.size 227 plainB _ plain_any s 0 [] _ (Cells.new w 227 [.string s, .int .i64 0]) (by omega) hs).mono ?_
      rintro e w1 ⟨rfl, hm, hc⟩
      have c1 := hc.cell 1 _ rfl
      have hbel : Below w.heap.size w w1 := (((Mod.refl (fun _ => False) w).alloc _).below).trans (hm.belowB (fun k hk => by omega) (by simp))
      clear hm hc
      go_wp2_with fail
      go_returns
      refine ⟨?_, hbel⟩
      rw [HV.out]
      exact congrArg (fun b => Ending.returned (.bool b)) (by rw [List.isEmpty_eq_false_iff.2 hne, Bool.not_false, Bool.true_and, Bool.eq_iff_iff, beq_iff_eq, beq_iff_eq]; omega)
end Go.Proofs.YthhnhbpmpdminaaGreatDoor
/-
Is it a word: the reference's. Conditions: how long the text is.
-/
namespace Go.Proofs.YthhnhbpmpdminaaGreatDoor
set_option maxRecDepth 4096
open Go.RowKit Go.Proofs.YthhnhbpmpdminaaGreatDoorW.PrintWords Go.Proofs.YthhnhbpmpdminaaGreatDoorW.PrintLast
end Go.Proofs.YthhnhbpmpdminaaGreatDoor
