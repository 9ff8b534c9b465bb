/-
The law SexpParse tells true. Conditions: the cell of errors.errorType; the text's length fits an int.
-/
import Derived.Test.YtdhfjaekhibaaaaDoorKno
import Derived.Test.YtdhfjaekhibaaaaDoorRfp
namespace Go.Proofs.YtdhfjaekhibaaaaDoor
set_option maxRecDepth 4096
open Go.RowKit Go.Proofs.YtdhfjaekhibaaaaDoorW.PrintWords Go.Proofs.YtdhfjaekhibaaaaDoorW.PrintLast

set_option maxHeartbeats 4000000 in
theorem lawParse (s : ByteArray) (w : World) (hs : s.size ≤ 9223372036854775807) (hE : EV w) :
    Calls Tryd.prog 3 #[.string s] w fun e w' => e = .returned (.bool true) ∧ Below w.heap.size w w' := by
  have AE := Aside0.mk hE
  clear hE
  by_cases hg : 20000 < s.size ∧ s.size ≤ 65536
  · have g1 : (20000 : Int) < (s.size : Int) := by omega
    have g2 : (s.size : Int) ≤ 65536 := by omega
    clear hg
    go_enter Tryd.func3, Tryd.ntmps3
    go_wp2_with fail
    refine (known_any w AE.out).mono ?_
    rintro e w1 ⟨rfl, hb1⟩
    have HB1 := Aside0.mk hb1
    clear hb1
    go_wp2_with fail
    go_returns
    exact ⟨rfl, HB1.out⟩
  · obtain ⟨R, hR⟩ : ∃ R, parse s.data.toList = R := ⟨_, rfl⟩
    have HR := Aside0.mk hR
    clear hR
    have hg' : (s.size : Int) ≤ 20000 ∨ (20000 : Int) < (s.size : Int) ∧ (65536 : Int) < (s.size : Int) := by omega
    clear hg
    rcases hg' with hg | ⟨g1, g2⟩ <;> (
      go_enter Tryd.func3, Tryd.ntmps3
      go_wp2_with fail
      refine (known_any w AE.out).mono ?_
      rintro e w1 ⟨rfl, hb1⟩
      have HB1 := Aside0.mk hb1
      clear hb1
      go_wp2_with fail
      refine (parse_any s w1 hs).mono ?_
      rintro e w2 ⟨hp, hb2⟩
      rw [HR.out] at hp
      have HB2 := Aside0.mk hb2
      have HBW := Aside0.mk (HB1.out.trans (hb2.mono HB1.out.size))
      clear hb2
      rcases R with ⟨a, n⟩ | L
      · obtain ⟨v2, rfl, hv2⟩ := hp
        have HV2 := Aside0.mk hv2
        clear hv2
        go_wp2_with fail
        refine (ref_any s w2 hs).mono ?_
        rintro e w3 ⟨hq, hb3⟩
        rw [HR.out] at hq
        have hq' : e = .returned (.tuple #[.slice none 0 0, .int .i64 (a : Int), .int .i64 (n : Int)]) := hq
        subst hq'
        have HB3 := Aside0.mk hb3
        have HB03 := Aside0.mk (HBW.out.trans (hb3.mono HBW.out.size))
        clear hb3 hq
        go_wp2_with fail
        refine (told_err v2 a n w3 (HV2.out.up HB3.out) (AE.out.up HB03.out)).mono ?_
        rintro e w4 ⟨rfl, hb4⟩
        have HB04 := Aside0.mk (HB03.out.trans (hb4.mono HB03.out.size))
        clear hb4
        go_wp2_with fail
        refine (same_list [] none none 0 0 w4 (by simp) (RL_nil _ _ _ _) (RL_nil _ _ _ _)).mono ?_
        rintro e w5 ⟨rfl, hb5⟩
        have HB05 := Aside0.mk (HB04.out.trans (hb5.mono HB04.out.size))
        clear hb5
        go_wp2_with fail
        go_returns
        exact ⟨by simp, HB05.out⟩
      · obtain ⟨A, c, rfl, hc1, hc2, hRL⟩ := hp
        have HL2 := Aside0.mk hRL
        clear hRL
        go_wp2_with fail
        refine (ref_any s w2 hs).mono ?_
        rintro e w3 ⟨hq, hb3⟩
        rw [HR.out] at hq
        obtain ⟨A', c', rfl, hc1', hc2', hRL'⟩ := hq
        have HL3 := Aside0.mk hRL'
        have HB3 := Aside0.mk hb3
        have HB03 := Aside0.mk (HBW.out.trans (hb3.mono HBW.out.size))
        clear hb3 hRL'
        go_wp2_with fail
        refine (told_nil w3).mono ?_
        rintro e w4 ⟨rfl, rfl⟩
        go_wp2_with fail
        refine (same_list L A A' c c' w4 (by omega) (RL_up HL2.out HB3.out) (RL_up HL3.out (Below.refl _ _))).mono ?_
        rintro e w5 ⟨rfl, hb5⟩
        have HB05 := Aside0.mk (HB03.out.trans (hb5.mono HB03.out.size))
        clear hb5
        go_wp2_with fail
        go_returns
        exact ⟨rfl, HB05.out⟩)
end Go.Proofs.YtdhfjaekhibaaaaDoor
