/-
The law SexpPrefix tells true. Conditions: the cell of errors.errorType; the text's length fits an int.
-/
import Derived.Test.YtdhfjaekhibaaaaDoorKno
import Derived.Test.YtdhfjaekhibaaaaDoorPlc
import Derived.Test.YtdhfjaekhibaaaaDoorPfx
namespace Go.Proofs.YtdhfjaekhibaaaaDoor
set_option maxRecDepth 100000
open Go.RowKit Go.Proofs.YtdhfjaekhibaaaaDoorW.PrintWords Go.Proofs.YtdhfjaekhibaaaaDoorW.PrintLast

set_option maxHeartbeats 4000000 in
theorem lawPrefix (s : ByteArray) (k : Int) (w : World) (hs : s.size ≤ 9223372036854775807) (hk : -9223372036854775808 ≤ k ∧ k ≤ 9223372036854775807) (hE : EV w) :
    Calls Tryd.prog 8 #[.string s, .int .i64 k] w fun e w' => e = .returned (.bool true) ∧ Below w.heap.size w w' := by
  have AE := Aside0.mk hE
  have hl : s.data.toList.length = s.size := by rw [Array.length_toList]; rfl
  clear hE
  by_cases hg : 4000 < s.size
  · have g1 : (4000 : Int) < (s.size : Int) := by omega
    clear hg
    go_enter Tryd.func8, Tryd.ntmps8
    go_wp2_with fail
    refine (known_any w AE.out).mono ?_
    rintro e w1 ⟨rfl, hb1⟩
    have HB1 := Aside0.mk hb1
    clear hb1
    go_wp2_with fail
    go_returns
    exact ⟨rfl, HB1.out⟩
  · have g1 : (s.size : Int) ≤ 4000 := by omega
    obtain ⟨R, hR⟩ : ∃ R, parse s.data.toList = R := ⟨_, rfl⟩
    have HR := Aside0.mk hR
    clear hR
    go_enter Tryd.func8, Tryd.ntmps8
    go_wp2_with fail
    refine (known_any w AE.out).mono ?_
    rintro e w1 ⟨rfl, hb1⟩
    have HB1 := Aside0.mk hb1
    clear hb1
    go_wp2_with fail
    refine (parse_any s w1 hs).mono ?_
    rintro e w2 ⟨hp, hb2⟩
    rw [HR.out] at hp
    have HB2 := Aside0.mk (HB1.out.trans (hb2.mono HB1.out.size))
    clear hb2
    rcases R with ⟨a, n⟩ | L
    · obtain ⟨v2, rfl, b2, rfl, _⟩ := hp
      go_wp2_with fail
      go_returns
      exact ⟨rfl, HB2.out⟩
    · obtain ⟨A, c, rfl, hc1, hc2, _⟩ := hp
      go_wp2_with fail
      refine (place_any k (s.size + 1) w2 (by omega) (by omega) hk).mono ?_
      rintro e w2' ⟨⟨r, hr, rfl⟩, rfl⟩
      have r1 : (r : Int) ≤ (s.size : Int) := by omega
      have r0 : (0 : Int) ≤ (r : Int) := by omega
      go_wp2_with fail
      have hu : ∃ u : ByteArray, u = s.extract 0 r := ⟨_, rfl⟩
      obtain ⟨u, hu⟩ := hu
      rw [← hu]
      have hud : u.data.toList = s.data.toList.take r := by rw [hu, extract_cut]; simp [cut]
      have husz : u.data.toList.length = u.size := by rw [Array.length_toList]; rfl
      have hule : u.size ≤ 9223372036854775807 := by
        rw [← husz, hud, List.length_take]; omega
      have hgd := parse_cut s.data.toList r (by omega) (by omega) L HR.out
      rw [← hud] at hgd
      clear hu hud
      obtain ⟨R2, hR2⟩ : ∃ R, parse u.data.toList = R := ⟨_, rfl⟩
      rw [hR2] at hgd
      refine (parse_any u w2' hule).mono ?_
      rintro e w3 ⟨hp, hb3⟩
      rw [hR2] at hp
      have HB3 := Aside0.mk (HB2.out.trans (hb3.mono HB2.out.size))
      clear hb3 hR2
      rcases R2 with ⟨a, n⟩ | L2
      · obtain ⟨v3, rfl, hv3⟩ := hp
        have HV3 := Aside0.mk hv3
        obtain ⟨b3, rfl, _⟩ := hv3
        rcases hgd with ⟨rfl, hga⟩ | ⟨rfl, hga⟩
        · have hau : a < u.size := by rw [← husz]; exact (List.getElem?_eq_some_iff.1 hga).1
          have hub : u[a] = 40 := (List.getElem?_eq_some_iff.1 hga).2
          have e40 : ((u[a].toNat : Int) == 40) = true := by rw [hub]; rfl
          have a0 : (0 : Int) ≤ (a : Int) := by omega
          have a1 : (a : Int) < (u.size : Int) := by omega
          clear hga hub
          go_wp2_with fail
          refine (told_err _ a 20 w3 HV3.out (AE.out.up HB3.out)).mono ?_
          rintro e w4 ⟨rfl, hb4⟩
          have HB4 := Aside0.mk (HB3.out.trans (hb4.mono HB3.out.size))
          clear hb4
          go_wp2_with fail
          go_returns
          exact ⟨rfl, HB4.out⟩
        · have hau : a < u.size := by rw [← husz]; exact (List.getElem?_eq_some_iff.1 hga).1
          have hub : u[a] = 124 := (List.getElem?_eq_some_iff.1 hga).2
          have e40 : ((u[a].toNat : Int) == 124) = true := by rw [hub]; rfl
          have a0 : (0 : Int) ≤ (a : Int) := by omega
          have a1 : (a : Int) < (u.size : Int) := by omega
          clear hga hub
          go_wp2_with fail
          refine (told_err _ a 22 w3 HV3.out (AE.out.up HB3.out)).mono ?_
          rintro e w4 ⟨rfl, hb4⟩
          have HB4 := Aside0.mk (HB3.out.trans (hb4.mono HB3.out.size))
          clear hb4
          go_wp2_with fail
          go_returns
          exact ⟨rfl, HB4.out⟩
      · obtain ⟨A2, c2, rfl, _, _, _⟩ := hp
        go_wp2_with fail
        refine (told_nil w3).mono ?_
        rintro e w4 ⟨rfl, rfl⟩
        go_wp2_with fail
        go_returns
        exact ⟨rfl, HB3.out⟩
end Go.Proofs.YtdhfjaekhibaaaaDoor
