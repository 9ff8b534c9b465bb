/-
Numerals: the reference's. Conditions: none.
-/
import Derived.Test.YthhnhbpmpdminaaGreatDoorNnu
namespace Go.Proofs.YthhnhbpmpdminaaGreatDoor
open Go.RowKit Go.Proofs.YthhnhbpmpdminaaGreatDoorW.PrintWords
set_option maxRecDepth 4096

theorem dig_int {b : UInt8} (h1 : 48 ≤ (b.toNat : Int)) (h2 : (b.toNat : Int) ≤ 57) : Lib.digitVal b = some (b.toNat - 48) := by
  unfold Lib.digitVal; rw [if_pos ⟨by omega, by omega⟩]
theorem dec_none {l : List UInt8} {j : Nat} (hj : j < l.length) (h : Lib.digitVal l[j] = none) : Lib.decNat l = none := by
  cases hq : Lib.decNat l with
  | none => rfl
  | some n =>
    obtain ⟨h1, h2⟩ := Lib.decNat_some hq
    have := decFrom_all _ _ _ h2 l[j] (List.getElem_mem hj)
    rw [h] at this; cases this

set_option maxHeartbeats 2000000 in
theorem Numeral_any (s : ByteArray) (W : World) (hs : s.size ≤ 9223372036854775807) : Calls Tryz.prog 67 #[.string s, .int .i64 9] W fun e W' => e = .returned (numV (numO 9 s.data.toList)) ∧ W' = W := by
  have hl : s.data.toList.length = s.size := by rw [Array.length_toList]; rfl
  by_cases hp : s.data.toList ≠ [] ∧ s.data.toList.length ≤ 9 ∧ ¬ (1 < s.data.toList.length ∧ s.data.toList[0]? = some 48)
  · obtain ⟨p1, p2, p3⟩ := hp
    have HN : Aside0 (numO 9 s.data.toList = Lib.decNat s.data.toList) := ⟨by unfold numO; rw [if_pos ⟨p2, p3⟩]⟩
    have h0 : 0 < s.size := by
      rcases Nat.eq_zero_or_pos s.size with e | e
      · exact absurd (List.length_eq_zero_iff.1 (by omega)) p1
      · exact e
    have hg : s.data.toList[0]? = some s[0] := List.getElem?_eq_some_iff.2 ⟨by omega, rfl⟩
    have q2 : (s.size : Int) ≤ 9 := by omega
    have q3 : ¬ ((s[0].toNat : Int) = 48 ∧ 1 < (s.size : Int)) := fun ⟨a, b⟩ => p3 ⟨by omega, by rw [hg]; exact congrArg some (UInt8.toNat_inj.1 (show s[0].toNat = 48 by omega))⟩
    have P1 := Aside0.mk p1
    have z0 : ((s.size : Int) == 0) = false := by rw [beq_eq_false_iff_ne]; omega
    have hcase : ((1 : Int) < (s.size : Int) ∧ ((s[0].toNat : Int) == 48) = false) ∨ (s.size : Int) ≤ 1 := by
      by_cases h : (1 : Int) < (s.size : Int)
      · exact .inl ⟨h, by rw [beq_eq_false_iff_ne]; exact fun e => q3 ⟨e, h⟩⟩
      · exact .inr (by omega)
    clear p1 p2 p3 hg q3
    rcases hcase with ⟨o1, e48⟩ | o1
    all_goals (
      go_enter Tryz.func67, Tryz.ntmps67
      go_wp2_with fail
      go_loopw [6, 7] (fun v6 v7 wr => ∃ (j acc : Nat), j ≤ s.size ∧ v7 = .int .i64 (j : Int) ∧ v6 = .int .i64 (acc : Int) ∧ Aside0 (Lib.decFrom 0 (s.data.toList.take j) = some acc) ∧ wr = W) (fun _ v _ => s.size - (intOf v).toNat)
      case atStart => exact ⟨0, 0, Nat.zero_le _, rfl, rfl, ⟨rfl⟩, rfl⟩
      case round =>
        obtain ⟨j, acc, hj, rfl, rfl, HD, rfl⟩ := hrel
        by_cases hlt : j < s.size
        · have j0 : (0 : Int) ≤ (j : Int) := by omega
          have j1 : (j : Int) < (s.size : Int) := by omega
          have hget : s.data.toList[j]? = some s[j] := List.getElem?_eq_some_iff.2 ⟨by omega, rfl⟩
          have hacc : acc < 100000000000000000 := Lib.decFrom_take_lt HD.out (by omega)
          cases hd : Lib.digitVal s[j] with
          | none =>
            have HX : Aside0 (Lib.decNat s.data.toList = none) := ⟨dec_none (j := j) (by omega) hd⟩
            have hb : (s[j].toNat : Int) < 48 ∨ 57 < (s[j].toNat : Int) := by
              unfold Lib.digitVal at hd
              split at hd
              · cases hd
              · omega
            clear hd hget
            go_wp2_with fail
            all_goals first
              | (exfalso; omega)
              | (go_returns
                 exact ⟨by rw [HN.out, HX.out]; rfl, rfl⟩)
          | some d =>
            have hb := Lib.digitVal_eq hd
            have HX := Aside0.mk (Lib.decFrom_take s.data.toList j 0 acc s[j] d HD.out hget hd)
            have b1 : 48 ≤ (s[j].toNat : Int) := by omega
            have b2 : (s[j].toNat : Int) ≤ 57 := by omega
            have b3 : (acc : Int) < 1099511627776 := by
              have := Lib.decFrom_lt _ _ _ HD.out
              have e : (s.data.toList.take j).length ≤ 9 := by simp; omega
              simp only [Nat.zero_add, Nat.one_mul] at this
              have := Nat.lt_of_lt_of_le this (Nat.pow_le_pow_right (by omega) e)
              omega
            have HA := Aside0.mk hacc
            have HJ := Aside0.mk hj
            have HBD := Aside0.mk hb
            clear hd hget hb hacc hj
            generalize hz : (acc : Int) = z at b3 ⊢
            have HZ := Aside0.mk hz
            clear hz
            go_wp2_with fail
            all_goals first
              | (exfalso; omega)
              | skip
            go_roundw
            case rel =>
              refine ⟨j + 1, acc * 10 + d, by omega, by go_num, ?_, HX, trivial⟩
              have e1 := HZ.out
              have e2 := HBD.out
              have e3 := HA.out
              congr 1
              unfold wrap64
              omega
            case measure => simp [intOf]; omega
        · have hjs : j = s.size := by omega
          have HX : Aside0 (Lib.decNat s.data.toList = some acc) := ⟨by
            have := HD.out
            rw [List.take_of_length_le (by omega)] at this
            unfold Lib.decNat
            cases hq : s.data.toList with
            | nil => exact absurd hq P1.out
            | cons b r => rw [hq] at this; exact this⟩
          go_wp2_with fail
          go_returns
          exact ⟨by rw [HN.out, HX.out]; rfl, rfl⟩)
  · have HN : Aside0 (numO 9 s.data.toList = none) := ⟨by
      unfold numO
      by_cases h1 : s.data.toList = []
      · rw [h1]; rfl
      · rw [if_neg (fun q => hp ⟨h1, q.1, q.2⟩)]⟩
    have HP := Aside0.mk hp
    clear hp
    go_enter Tryz.func67, Tryz.ntmps67
    go_wp2_with fail
    all_goals first
      | (go_returns
         exact ⟨by rw [HN.out]; rfl, rfl⟩)
      | (exfalso
         have hp := HP.out
         simp_all
         done)
      | (exfalso
         apply HP.out
         have hg : ∀ h : 0 < s.size, s.data.toList[0]? = some s[0] := fun h => List.getElem?_eq_some_iff.2 ⟨by omega, rfl⟩
         refine ⟨?_, by omega, fun q => ?_⟩
         · intro e
           have z : s.size = 0 := by rw [← hl, e]; rfl
           have z2 : s = ByteArray.empty := by apply ByteArray.ext; exact Array.eq_empty_of_size_eq_zero z
           first | omega | contradiction
         · obtain ⟨q1, q2⟩ := q
           rw [hg (by omega)] at q2
           have := congrArg UInt8.toNat (Option.some.inj q2)
           simp at this
           first | omega | (simp_all; done) | (simp_all; omega))
end Go.Proofs.YthhnhbpmpdminaaGreatDoor
