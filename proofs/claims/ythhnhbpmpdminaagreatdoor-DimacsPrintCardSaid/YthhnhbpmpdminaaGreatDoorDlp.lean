/-
The law DimacsPrint, walked. Conditions: errors.errorType, the powers of ten and bytealg.MaxLen are as they are laid; the lengths can be counted.
-/
import Derived.Test.YthhnhbpmpdminaaGreatDoorDcp
namespace Go.Proofs.YthhnhbpmpdminaaGreatDoor
open Go.RowKit Go.Lib Go.Proofs.YthhnhbpmpdminaaGreatDoorW.PrintWords PDimacsPrint
set_option maxRecDepth 4096

theorem size_any (l : List (List Int)) (v : Value) (w : World) (h : Seen w l v) (hl : l.length ≤ 140737488355328) (hcs : ∀ c ∈ l, c.length ≤ 140737488355328) (b : Nat) (hb : b ≤ 1000000) : Calls Tryz.prog 17 #[v, .int .i64 (b : Int)] w fun e w' => ∃ r : Int, e = .returned (.int .i64 r) ∧ (bulk l ≤ b → r = (bulk l : Int)) ∧ (b < bulk l → (b : Int) < r) ∧ Below w.heap.size w w' := by
  obtain ⟨A, c, rfl, hc, hC⟩ := h.out
  obtain ⟨K, r, hf, h1, h2⟩ := size_f l b hl hcs hb
  exact (plaithelp_Size.calls K A c l b r w hC hc hf).mono fun e w' ⟨he, hd⟩ => ⟨r, he, h1, h2, hd.below⟩
theorem ref_print (l : List (List Int)) (v : Value) (w : World) (h : Seen w l v) (hb : bulk l ≤ 3000) : Calls Tryz.prog 20 #[v] w fun e w' => ∃ t n, e = .returned (.tuple #[.string t, .int .i64 n]) ∧ ((okL l ∧ t = BA (prT l) ∧ n = 0) ∨ (¬ okL l ∧ t = ⟨#[]⟩ ∧ n = 190)) ∧ Below w.heap.size w w' := by
  obtain ⟨A, c, rfl, hc, hC⟩ := h.out
  have hll : l.length ≤ 3000 := by unfold bulk at hb; omega
  obtain ⟨K, h1, h2⟩ := print_f l (by omega) (fun c hc => by have := bulk_row hc; omega)
  by_cases hok : okL l
  · have hlen := prT_len l hok (by omega)
    exact (plaitref19_Print.calls K A c l _ _ w hC hc (h1 hok (by omega))).mono fun e w' ⟨he, hB⟩ => ⟨_, _, he, .inl ⟨hok, rfl, rfl⟩, hB⟩
  · exact (plaitref19_Print.calls K A c l _ _ w hC hc (h2 hok)).mono fun e w' ⟨he, hB⟩ => ⟨_, _, he, .inr ⟨hok, rfl, rfl⟩, hB⟩
theorem print_seen (l : List (List Int)) (v : Value) (w : World) (h : Seen w l v) (hb : bulk l ≤ 3000) (ht : TP w) : Calls Tryz.prog 19 #[v] w fun e w' => PrintPost w l e w' := by
  obtain ⟨A, c, rfl, hc, hC⟩ := h.out
  exact Print_any A c l w hC hb ht
theorem copy_seen (l : List (List Int)) (v : Value) (w : World) (h : Seen w l v) (hb : bulk l ≤ 3000) : Calls Tryz.prog 18 #[v] w fun e w' => ∃ u, e = .returned u ∧ Seen w' l u ∧ Below w.heap.size w w' := by
  obtain ⟨A, c, rfl, hc, hC⟩ := h.out
  exact (copy_lists A c l w hC hb).mono fun e w' ⟨u, hs, he, hI, hB⟩ => ⟨u, he, hI.seen, hB⟩
/-- What is printed is read again as it was. -/
theorem back_seen (l : List (List Int)) (w : World) (hok : okL l) (hb : bulk l ≤ 3000) (hm : ML w) : Calls Tryz.prog 13 #[.string (BA (prT l))] w fun e w' => ∃ v, e = .returned (.tuple #[v, .nilIface]) ∧ Seen w' l v ∧ Below w.heap.size w w' := by
  have hll : l.length ≤ 3000 := by unfold bulk at hb; omega
  have hlen := prT_len l hok (by omega)
  obtain ⟨st, h1, h2⟩ := parse_print l hok (by omega) (by omega)
  have hd : (BA (prT l)).data.toList = prT l := by simp [BA]
  refine (Parse_any (BA (prT l)) w (by rw [BA_size]; omega) hm).mono fun e w' h => ?_
  rw [hd, h1] at h
  obtain ⟨g, vc, vo, hs, rfl, hP, hB⟩ := h
  have hC := PI_C hP
  rw [h2] at hC
  exact ⟨vc, rfl, ⟨hC⟩, hB⟩
set_option maxHeartbeats 4000000 in
theorem lawDPrint (l : List (List Int)) (v : Value) (w : World) (hS : Seen w l v) (hl : l.length ≤ 140737488355328) (hcs : ∀ c ∈ l, c.length ≤ 140737488355328) (hE : EV w) (hp : Ab.PW w) (hm : ML w) (ht : TP w) : Calls Tryz.prog 4 #[v] w fun e w' => e = .returned (.bool true) ∧ Below w.heap.size w w' := by
  have HE := Aside0.mk hE
  have HM := Aside0.mk hm
  have HP := Aside0.mk hp
  have HT := Aside0.mk ht
  have HS := Aside0.mk hS
  have HL := Aside0.mk hcs
  clear hE hm hp ht hS hcs
  go_enter Tryz.func4, Tryz.ntmps4
  go_wp2_with fail
  refine (Ab.known19 HE.out HP.out).mono ?_
  rintro e w1 ⟨rfl, hB⟩
  have HB1 := Aside0.mk hB
  clear hB
  go_wp2_with fail
  refine (size_any l v _ (HS.out.up HB1.out) hl HL.out 3000 (by omega)).mono ?_
  rintro e w2 ⟨r, rfl, h1, h2, hB⟩
  have HB2 := Aside0.mk (HB1.out.trans (hB.mono HB1.out.size))
  clear hB
  by_cases hb : 3000 < bulk l
  · have h3 : (3000 : Int) < r := h2 hb
    clear h1 h2
    go_wp2_with fail
    go_returns
    exact ⟨rfl, HB2.out⟩
  · have hb2 : bulk l ≤ 3000 := by omega
    have h3 : ¬ (3000 : Int) < r := by have := h1 hb2; omega
    clear h1 h2 hb
    go_wp2_with fail
    refine (copy_seen l v _ (HS.out.up HB2.out) hb2).mono ?_
    rintro e w3 ⟨u, rfl, hu, hB⟩
    have HB3 := Aside0.mk (HB2.out.trans (hB.mono HB2.out.size))
    have HU3 := Aside0.mk hu
    clear hB hu
    go_wp2_with fail
    refine (print_seen l u _ HU3.out hb2 (HT.out.up HB3.out)).mono ?_
    rintro e w4 ⟨t, n, rfl, ht, hB⟩
    have HB4 := Aside0.mk (HB3.out.trans (hB.mono HB3.out.size))
    have HU4 := Aside0.mk (HU3.out.up hB)
    have HN := Aside0.mk ht
    clear hB ht
    go_wp2_with fail
    refine (ref_print l v _ (HS.out.up HB4.out) hb2).mono ?_
    rintro e w5 ⟨t2, n2, rfl, ht, hB⟩
    have HB5 := Aside0.mk (HB4.out.trans (hB.mono HB4.out.size))
    have HU5 := Aside0.mk (HU4.out.up hB)
    clear hB
    rcases HN.out with ⟨hok, rfl, rfl⟩ | ⟨hbad, rfl, rfl⟩
    · rcases ht with ⟨_, rfl, rfl⟩ | ⟨q, _, _⟩
      · have HOK := Aside0.mk hok
        clear hok HN
        obtain ⟨T, hT⟩ : ∃ T, T = BA (prT l) := ⟨_, rfl⟩
        rw [← hT]
        have HTT := Aside0.mk hT
        clear hT
        go_wp2_with fail
        refine (lists_any l _ _ _ HU5.out (HS.out.up HB5.out)).mono ?_
        rintro e w6 ⟨rfl, hB⟩
        have HB6 := Aside0.mk (HB5.out.trans (hB.mono HB5.out.size))
        clear hB
        go_wp2_with fail
        rw [HTT.out]
        refine (back_seen l _ HOK.out hb2 (HM.out.up HB6.out)).mono ?_
        rintro e w7 ⟨v7, rfl, hs, hB⟩
        have HB7 := Aside0.mk (HB6.out.trans (hB.mono HB6.out.size))
        have HS7 := Aside0.mk hs
        clear hB hs
        go_wp2_with fail
        refine (lists_any l _ _ _ HS7.out (HS.out.up HB7.out)).mono ?_
        rintro e w8 ⟨rfl, hB⟩
        have HB8 := Aside0.mk (HB7.out.trans (hB.mono HB7.out.size))
        clear hB
        go_wp2_with fail
        go_returns
        exact ⟨rfl, HB8.out⟩
      · exact absurd hok q
    · rcases ht with ⟨q, _, _⟩ | ⟨_, rfl, rfl⟩
      · exact absurd q hbad
      · clear hbad HN
        go_wp2_with fail
        refine (lists_any l _ _ _ HU5.out (HS.out.up HB5.out)).mono ?_
        rintro e w6 ⟨rfl, hB⟩
        have HB6 := Aside0.mk (HB5.out.trans (hB.mono HB5.out.size))
        clear hB
        go_wp2_with fail
        go_returns
        exact ⟨rfl, HB6.out⟩
end Go.Proofs.YthhnhbpmpdminaaGreatDoor
