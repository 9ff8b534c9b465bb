/-
Which words are names: the program's and the reference's. Conditions: none.
-/
import Derived.Test.YthhnhbpmpdminaaGreatDoorNop
namespace Go.Proofs.YthhnhbpmpdminaaGreatDoor
open Go.RowKit Go.Proofs.YthhnhbpmpdminaaGreatDoorW.PrintWords
set_option maxRecDepth 4096

def othV (l : List UInt8) : Int := match (opTab.drop 27).find? (fun p => l == p.1) with
  | some p => p.2
  | none => 0

set_option maxHeartbeats 2000000 in
theorem other_any (s : ByteArray) (W : World) : Calls Tryz.prog 98 #[.string s] W fun e W' => (∃ (n : Int) (m : Bool) (k : Int), e = .returned (.tuple #[.int .i64 n, .bool m, .int .i64 k]) ∧ (n = 0 ↔ othV s.data.toList = 0)) ∧ W' = W := by
  go_enter Tryz.func98, Tryz.ntmps98
  go_wp2_with fail
  all_goals (
    go_returns
    refine ⟨⟨_, _, _, rfl, ?_⟩, rfl⟩
    simp only [ByteArray.toList_eq] at *
    first
      | (rename_i h; rw [eq_of_beq h]; decide)
      | (simp only [othV, opTab, List.drop, List.find?_cons, List.find?_nil, *]))
set_option maxHeartbeats 2000000 in
theorem operator_any (s : ByteArray) (W : World) : Calls Tryz.prog 70 #[.string s] W fun e W' => (∃ (n : Int) (m : Bool) (k : Int), e = .returned (.tuple #[.int .i64 n, .bool m, .int .i64 k]) ∧ (n = 0 ↔ opV s.data.toList = 0)) ∧ W' = W := by
  go_enter Tryz.func70, Tryz.ntmps70
  go_wp2_with fail
  all_goals first
    | (go_returns
       refine ⟨⟨_, _, _, rfl, ?_⟩, rfl⟩
       simp only [ByteArray.toList_eq] at *
       rename_i h; rw [eq_of_beq h]; decide)
    | skip
  refine (other_any s W).mono ?_
  rintro e w1 ⟨⟨n, m, k, rfl, hn⟩, rfl⟩
  have HN : Hid (n = 0 ↔ opV s.data.toList = 0) := by
    show _ ↔ _
    rw [hn]
    simp only [ByteArray.toList_eq] at *
    have e : opV s.data.toList = othV s.data.toList := by
      clear hn
      simp only [othV, opV, opTab, List.drop, List.find?_cons, *]
      rfl
    rw [e]
  clear hn
  go_wp2_with fail
  go_returns
  exact ⟨⟨_, _, _, rfl, HN.out⟩, rfl⟩

def nameB (l : List UInt8) : Bool := wordB l && match l with
  | [] => false
  | b :: _ => ((b.toNat : Int) == 124) || !(decide (48 ≤ (b.toNat : Int)) && decide ((b.toNat : Int) ≤ 57) || ((b.toNat : Int) == 35) || ((b.toNat : Int) == 58) || l == [116, 114, 117, 101] || l == [102, 97, 108, 115, 101] || l == [108, 101, 116] || l == [95] || !(opV l == 0))
theorem nameB_eq {s : ByteArray} (h : 0 < s.size) (hw : wordB s.data.toList = true) : nameB s.data.toList = (((s[0].toNat : Int) == 124) || !(decide (48 ≤ (s[0].toNat : Int)) && decide ((s[0].toNat : Int) ≤ 57) || ((s[0].toNat : Int) == 35) || ((s[0].toNat : Int) == 58) ||
    s.data.toList == [116, 114, 117, 101] || s.data.toList == [102, 97, 108, 115, 101] || s.data.toList == [108, 101, 116] || s.data.toList == [95] || !(opV s.data.toList == 0))) := by
  have hl : s.data.toList.length = s.size := by rw [Array.length_toList]; rfl
  obtain ⟨b, r, hq⟩ : ∃ b r, s.data.toList = b :: r := by
    cases hq : s.data.toList with
    | nil => rw [hq] at hl; simp at hl; omega
    | cons b r => exact ⟨b, r, rfl⟩
  have hb : s[0] = b := by
    have : s.data.toList[0]? = some s[0] := List.getElem?_eq_some_iff.2 ⟨by omega, rfl⟩
    rw [hq] at this
    simpa using this.symm
  unfold nameB
  rw [hw, hq, hb]
  rfl

set_option maxHeartbeats 2000000 in
theorem Name_any (s : ByteArray) (W : World) (hs : s.size ≤ 9223372036854775807) : Calls Tryz.prog 68 #[.string s] W fun e W' => e = .returned (.bool (nameB s.data.toList)) ∧ Below W.heap.size W W' := by
  have hl : s.data.toList.length = s.size := by rw [Array.length_toList]; rfl
  by_cases hw : wordB s.data.toList = true
  · have h0 : 0 < s.size := by
      rcases Nat.eq_zero_or_pos s.size with e | e
      · have : s.data.toList = [] := List.length_eq_zero_iff.1 (by omega)
        rw [this] at hw; exact absurd hw (by decide)
      · exact e
    have h1 : (0 : Int) < (s.size : Int) := by omega
    have HN := Aside0.mk (nameB_eq h0 hw)
    have HW := Aside0.mk hw
    clear hw
    go_enter Tryz.func68, Tryz.ntmps68
    go_wp2_with fail
    refine (sword_any s W hs).mono ?_
    rintro e w1 ⟨rfl, hB⟩
    rw [HW.out]
    have HB := Aside0.mk hB
    clear hB
    go_wp2_with fail
    all_goals first
      | (go_returns
         refine ⟨?_, HB.out⟩
         rw [HN.out]
         simp only [ByteArray.toList_eq] at *
         first | (simp [*]; done) | (exfalso; simp_all; done) | (simp_all; done) | (simp_all; omega))
      | skip
    all_goals (
      refine (Op_any s _).mono ?_
      rintro e w2 ⟨rfl, hB2⟩
      have HB2 := Aside0.mk hB2
      clear hB2
      go_wp2_with fail
      go_returns
      refine ⟨?_, HB.out.trans (HB2.out.mono HB.out.size)⟩
      rw [HN.out]
      simp only [ByteArray.toList_eq] at *
      first | (simp [*]; done) | (exfalso; simp_all; done) | (simp_all; done) | (simp_all; omega))
  · have hf : wordB s.data.toList = false := by simpa using hw
    have HN : Aside0 (nameB s.data.toList = false) := ⟨by unfold nameB; rw [hf]; rfl⟩
    have HW := Aside0.mk hf
    clear hf hw
    go_enter Tryz.func68, Tryz.ntmps68
    go_wp2_with fail
    refine (sword_any s W hs).mono ?_
    rintro e w1 ⟨rfl, hB⟩
    rw [HW.out]
    have HB := Aside0.mk hB
    clear hB
    go_wp2_with fail
    go_returns
    exact ⟨by rw [HN.out]; rfl, HB.out⟩
end Go.Proofs.YthhnhbpmpdminaaGreatDoor
