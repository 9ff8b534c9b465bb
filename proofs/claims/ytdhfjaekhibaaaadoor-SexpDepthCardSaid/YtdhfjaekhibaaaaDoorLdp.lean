/-
The law SexpDepth tells true. Conditions: the cell of errors.errorType.
-/
import Derived.Test.YtdhfjaekhibaaaaDoorKno
import Derived.Test.YtdhfjaekhibaaaaDoorPlc
import Derived.Test.YtdhfjaekhibaaaaDoorDpt
namespace Go.Proofs.YtdhfjaekhibaaaaDoor
set_option maxRecDepth 100000
open Go.RowKit Go.Proofs.YtdhfjaekhibaaaaDoorW.PrintWords Go.Proofs.YtdhfjaekhibaaaaDoorW.PrintLast

def opnV (n : Nat) : ByteArray := ⟨(opn n).toArray⟩
def clsV (n m : Nat) : ByteArray := ⟨(opn n ++ cls m).toArray⟩
theorem opnV_succ (n : Nat) : opnV n ++ ⟨#[40]⟩ = opnV (n + 1) := by
  apply ByteArray.ext
  apply Array.ext'
  simp [opnV, opn, List.replicate_succ']
theorem clsV_succ (n m : Nat) : clsV n m ++ ⟨#[41]⟩ = clsV n (m + 1) := by
  apply ByteArray.ext
  apply Array.ext'
  simp [clsV, cls, List.replicate_succ']

set_option maxHeartbeats 4000000 in
theorem lawDepth (k : Int) (w : World) (hk : -9223372036854775808 ≤ k ∧ k ≤ 9223372036854775807) (hE : EV w) :
    Calls Tryd.prog 7 #[.int .i64 k] w fun e w' => e = .returned (.bool true) ∧ Below w.heap.size w w' := by
  have AE := Aside0.mk hE
  clear hE
  go_enter Tryd.func7, Tryd.ntmps7
  go_wp2_with fail
  refine (known_any w AE.out).mono ?_
  rintro e w1 ⟨rfl, hb1⟩
  have HB1 := Aside0.mk hb1
  clear hb1
  go_wp2_with fail
  refine (place_any k 400 w1 (by decide) (by decide) hk).mono ?_
  rintro e w1 ⟨⟨n, hn, rfl⟩, rfl⟩
  go_wp2_with fail
  go_loop [3, 4] (fun t v => ∃ i : Nat, i ≤ n ∧ v = .int .i64 (i : Int) ∧ t = .string (opnV i)) (fun _ v => n - (intOf v).toNat)
  case atStart => exact ⟨0, Nat.zero_le _, rfl, rfl⟩
  case round =>
    obtain ⟨i, hi, rfl, rfl⟩ := hrel
    by_cases hlt : i < n
    · have i1 : (i : Int) < (n : Int) := by omega
      have hs : (opnV i).size + 1 ≤ 9223372036854775807 := by
        have : (opnV i).size = i := by simp [opnV, ByteArray.size, opn]
        omega
      go_wp2_with fail
      go_round
      case rel => exact ⟨i + 1, by omega, by go_num, by rw [← opnV_succ]⟩
      case measure => simp [intOf]; omega
    · have i1 : (n : Int) ≤ (i : Int) := by omega
      have hin : i = n := by omega
      subst hin
      go_wp2_with fail
      go_loop [3, 6] (fun t v => ∃ j : Nat, j ≤ i ∧ v = .int .i64 (j : Int) ∧ t = .string (clsV i j)) (fun _ v => i - (intOf v).toNat)
      case atStart => exact ⟨0, Nat.zero_le _, rfl, by simp [opnV, clsV, cls]⟩
      case round =>
        obtain ⟨j, hj, rfl, rfl⟩ := hrel
        by_cases hlt2 : j < i
        · have j1 : (j : Int) < (i : Int) := by omega
          have hs : (clsV i j).size + 1 ≤ 9223372036854775807 := by
            have : (clsV i j).size = i + j := by simp [clsV, ByteArray.size, opn, cls]
            omega
          go_wp2_with fail
          go_round
          case rel => exact ⟨j + 1, by omega, by go_num, by rw [← clsV_succ]⟩
          case measure => simp [intOf]; omega
        · have j1 : (i : Int) ≤ (j : Int) := by omega
          have hin : j = i := by omega
          subst hin
          have hsz : (clsV j j).size ≤ 9223372036854775807 := by
            have : (clsV j j).size = j + j := by simp [clsV, ByteArray.size, opn, cls]
            omega
          go_wp2_with fail
          refine (parse_any (clsV j j) _ hsz).mono ?_
          rintro e w2 ⟨hp, hb2⟩
          have hp' : ParseOut w1 w2 e (parse (opn j ++ cls j)) := by simpa [clsV] using hp
          have HB2 := Aside0.mk (HB1.out.trans (hb2.mono HB1.out.size))
          clear hp hb2
          by_cases hdeep : 200 < j
          · rw [parse_deep j hdeep (by omega)] at hp'
            obtain ⟨v2, rfl, hv2⟩ := hp'
            have HV := Aside0.mk hv2
            have d1 : (200 : Int) < (j : Int) := by omega
            clear hv2 hdeep
            go_wp2_with fail
            refine (told_err v2 200 23 w2 HV.out (AE.out.up HB2.out)).mono ?_
            rintro e w3 ⟨rfl, hb3⟩
            have HB3 := Aside0.mk (HB2.out.trans (hb3.mono HB2.out.size))
            clear hb3
            go_wp2_with fail
            go_returns
            exact ⟨rfl, HB3.out⟩
          · rw [parse_nest j (by omega)] at hp'
            obtain ⟨A, c, rfl, hc1, hc2, hR⟩ := hp'
            rw [nest_length]
            have d1 : (j : Int) ≤ 200 := by omega
            clear hR hc1
            go_wp2_with fail
            refine (told_nil w2).mono ?_
            rintro e w3 ⟨rfl, rfl⟩
            have hsz2 : (opnV j).size ≤ 9223372036854775807 := by
              have : (opnV j).size = j := by simp [opnV, ByteArray.size, opn]
              omega
            go_wp2_with fail
            refine (parse_any (opnV j) _ hsz2).mono ?_
            rintro e w4 ⟨hp, hb4⟩
            have hp' : ParseOut w3 w4 e (parse (opn j)) := by simpa [opnV] using hp
            have HB4 := Aside0.mk (HB2.out.trans (hb4.mono HB2.out.size))
            rw [parse_opn j (by omega)] at hp'
            clear hp hb4
            by_cases hz : j = 0
            · subst hz
              obtain ⟨A2, c2, rfl, _, _, _⟩ := hp'
              go_wp2_with fail
              refine (told_nil w4).mono ?_
              rintro e w5 ⟨rfl, rfl⟩
              have hm0 : min (0 : Int) 1 = 0 := by decide
              go_wp2_with fail
              go_returns
              exact ⟨rfl, HB4.out⟩
            · rw [if_neg hz] at hp'
              obtain ⟨v4, rfl, hv4⟩ := hp'
              have HV := Aside0.mk hv4
              have hmin : min j 1 = 1 := by omega
              rw [hmin]
              have d2 : (1 : Int) ≤ (j : Int) := by omega
              have hm0 : min (j : Int) 1 = 1 := by omega
              have d3 : ((j : Int) == 0) = false := by rw [beq_eq_false_iff_ne]; omega
              clear hv4
              go_wp2_with fail
              refine (told_err v4 (j - 1) 20 w4 HV.out (AE.out.up HB4.out)).mono ?_
              rintro e w5 ⟨rfl, hb5⟩
              have HB5 := Aside0.mk (HB4.out.trans (hb5.mono HB4.out.size))
              clear hb5
              rw [show ((j - 1 : Nat) : Int) = (j : Int) - 1 by omega]
              go_wp2_with fail
              go_returns
              exact ⟨rfl, HB5.out⟩
end Go.Proofs.YtdhfjaekhibaaaaDoor
