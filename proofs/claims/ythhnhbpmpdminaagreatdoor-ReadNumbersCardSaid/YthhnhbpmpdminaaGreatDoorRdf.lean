/-
read.Scope: Define. Conditions: the reader in memory. (Written by mk_rdf.py out of rdf_head.txt.)
-/
import Derived.Test.YthhnhbpmpdminaaGreatDoorRdp
namespace Go.Proofs.YthhnhbpmpdminaaGreatDoor
set_option maxRecDepth 4096
set_option maxHeartbeats 8000000
set_option linter.unusedSimpArgs false
set_option linter.unusedVariables false
set_option linter.unnecessarySimpa false
open Go.RowKit Go.Proofs.YthhnhbpmpdminaaGreatDoorW.PrintWords Go.Maps PReadTwice
set_option maxHeartbeats 20000000 in
theorem Define_any (z : Zr) (w : World) (s : Sc) (nm0 : ByteArray) (ps : List (ByteArray × Int)) (pa : Option Addr) (pc : Nat) (sort : Int) (x : Sx) (xa : Option Addr) (xc : Nat) (h : SS z w s) (hB : z.B ≤ w.heap.size) (hnz : nm0.size ≤ maxLen) (hso : i64ok sort) (hn : s.E.length < 999999) (hdf : s.defs ≤ 1000000)
    (hpl : ps.length ≤ 1000000) (hpc : ps.length ≤ pc) (hpm : pc ≤ 9223372036854775807) (hpa : ParS (fun k => NR z w k ∧ k ≠ z.sb) w ps pa) (hx : RT w (fun k => NR z w k ∧ k ≠ z.sb) x [.string x.word, .bool x.list, .slice xa x.kids.length xc]) :
    Calls Tryz.prog 36 #[.pointer (some ⟨z.sb, 0, none⟩), .string nm0, .slice pa ps.length pc, .int .i64 sort, .agg #[.string x.word, .bool x.list, .slice xa x.kids.length xc]] w fun e w' => e = .returned (.int .i64 (defF nm0 ps sort x s).1) ∧ SS z w' (defF nm0 ps sort x s).2 ∧ Mod (SZ z w) w w' ∧ Below z.B w w' := by
  obtain ⟨R, hR⟩ : ∃ R, defF nm0 ps sort x s = R := ⟨_, rfl⟩
  rw [hR]
  have HR := Aside0.mk hR
  have HH := Aside0.mk h
  have HPA := Aside0.mk hpa
  have HX := Aside0.mk hx
  have HBB : Aside0 (∀ w', Below w.heap.size w w' → SS z w' s ∧ Mod (SZ z w) w w' ∧ Below z.B w w') := ⟨fun w' hb => ⟨h.below hb, Mod.of_below hb, hb.mono hB⟩⟩
  have HNZ := Aside0.mk hnz
  have HSO := Aside0.mk hso
  have hkey := WideMaps.keyOf_string_mk (P := Tryz.prog) Tryz.underlying9 hnz
  obtain ⟨xw, hxw⟩ : ∃ v, x.word = v := ⟨_, rfl⟩
  obtain ⟨xl, hxl⟩ : ∃ v, x.list = v := ⟨_, rfl⟩
  obtain ⟨xk, hxk⟩ : ∃ v, x.kids.length = v := ⟨_, rfl⟩
  obtain ⟨N, hN⟩ : ∃ v, ps.length = v := ⟨_, rfl⟩
  rw [hxw, hxl, hxk] at HX ⊢
  rw [hN] at hpl hpc ⊢
  have AN := Aside0.mk hN
  have AXW := Aside0.mk hxw
  have AXL := Aside0.mk hxl
  have AXK := Aside0.mk hxk
  obtain ⟨vl, cs, hI, hE⟩ := h.sc
  obtain ⟨D0, hD0, hA0⟩ := hI.at_
  obtain ⟨K, hK⟩ : ∃ K, (exi nm0 s.E : Int) = K := ⟨_, rfl⟩
  have HAT : Aside0 (D0.atKey (.string nm0.data.toList) (.lit (.int .i64 0)) = .lit (.int .i64 K)) := ⟨by rw [← hK]; exact hA0 nm0 hnz⟩
  have HKK : Aside0 (decide ((0 : Int) < K) = decide (exi nm0 s.E ≠ 0)) := ⟨by rw [← hK]; apply decide_eq_decide.2; omega⟩
  obtain ⟨tb, htb⟩ : ∃ tb, decide ((0 : Int) < K) = tb := ⟨_, rfl⟩
  have HTB := Aside0.mk htb
  obtain ⟨w1, hw1⟩ : ∃ w1, w.alloc (.cells #[.string xw, .bool xl, .slice xa xk xc] 49) = w1 := ⟨_, rfl⟩
  have hB1 : Below w.heap.size w w1 := by rw [← hw1]; exact (Below.refl _ w).alloc (Nat.le_refl _) _
  have HB1 := Aside0.mk hB1
  have HCX : Aside0 (Cells w1 w.heap.size 49 [.string xw, .bool xl, .slice xa xk xc]) := ⟨by rw [← hw1]; exact Cells.new w _ _⟩
  have HSC1 := Aside0.mk (hI.next (KR.of_below hB1)).scope
  have HG1 : Aside0 (gmap 9 w1 z.ab s.E.length D0) := ⟨gmap_heap hD0 (hB1.block _ hI.ab.1)⟩
  have HKEY := Aside0.mk hkey
  have HKE := Aside0.mk hK
  clear h hpa hx hso hxw hxl hxk hN hI hE hD0 hA0 hK hB1 hkey hR
  go_enter Tryz.func36, Tryz.ntmps36
  go_upto_region 1 with (fail)
  try rw [hw1]
  clear hw1
  refine wp_plan [(0, 0), (0, 2), (0, 4), (0, 5), (0, 6), (0, 8), (1, 7), (1, 9), (0, 10), (2, 1), (2, 3), (0, 11), (0, 12), (0, 13)] (fun w' => Cells w' z.sb 127 [.pointer (some ⟨z.g, 0, none⟩), vl, .map (some z.ab), .int .i64 (s.defs : Int)] ∧ gmap 9 w' z.ab s.E.length D0) (by kernel_rfl) (by kernel_rfl) (fun _ _ d _ _ h => by cases d <;> exact h) ⟨HSC1.out.drew, World.ownsMap.drew HG1.out⟩ ?_
  simp only [planOps, List.filterMap_cons, List.filterMap_nil, List.getElem?_toArray, List.getElem?_cons_zero, List.getElem?_cons_succ, Option.map_some]
  repeat (first
    | (refine' plan_pu _ (by rfl) (fun w' => ?_) ?_; rotate_left 1; (focus (go_simp; try (with_reducible rfl))); (try simp only [wrapi_0, wrapi_1, wrapi_2, wrapi_3, wrapi_4]); simp only [Act.put, List.setIfInBounds_toArray, List.set_cons_zero, List.set_cons_succ])
    | (refine' plan_off (by rfl) ?_; (try simp only [wrapi_0, wrapi_1, wrapi_2, wrapi_3, wrapi_4]); simp only [Act.put, List.setIfInBounds_toArray, List.set_cons_zero, List.set_cons_succ])
    | (refine' plan_offL (by rfl) ?_; (try simp only [wrapi_0, wrapi_1, wrapi_2, wrapi_3, wrapi_4]); simp only [Act.put, List.setIfInBounds_toArray, List.set_cons_zero, List.set_cons_succ])
    | (refine' plan_offE (by rfl) (by first | assumption | exact (by assumption)) ?_; (try simp only [wrapi_0, wrapi_1, wrapi_2, wrapi_3, wrapi_4]); simp only [Act.put, List.setIfInBounds_toArray, List.set_cons_zero, List.set_cons_succ])
    | (refine' plan_ld _ (by rfl) (fun w' hSw => ?_) ?_; rotate_left 1; (focus ((try dsimp only at hSw); have c2 := hSw.1.cell 2 _ rfl; go_simp; try (with_reducible rfl))); (try simp only [wrapi_0, wrapi_1, wrapi_2, wrapi_3, wrapi_4]); simp only [Act.put, List.setIfInBounds_toArray, List.set_cons_zero, List.set_cons_succ]))
  refine plan_ld (.int .i64 K) (by rfl) (fun w' hSw => ?_) ?_
  · obtain ⟨c, hrun, hat, _⟩ := hSw.2.lookup_int strLaw Tryz.underlying121 Tryz.underlying3 (Tryz.zeroInt _) HKEY.out
    obtain rfl : c = K := (by have := hat.symm.trans HAT.out; simpa using this)
    go_simp
  simp only [Act.put, List.setIfInBounds_toArray, List.set_cons_zero, List.set_cons_succ]
  repeat (first
    | (refine' plan_pu _ (by rfl) (fun w' => ?_) ?_; rotate_left 1; (focus (go_simp; try (with_reducible rfl))); (try simp only [wrapi_0, wrapi_1, wrapi_2, wrapi_3, wrapi_4]); simp only [Act.put, List.setIfInBounds_toArray, List.set_cons_zero, List.set_cons_succ])
    | (refine' plan_off (by rfl) ?_; (try simp only [wrapi_0, wrapi_1, wrapi_2, wrapi_3, wrapi_4]); simp only [Act.put, List.setIfInBounds_toArray, List.set_cons_zero, List.set_cons_succ])
    | (refine' plan_offL (by rfl) ?_; (try simp only [wrapi_0, wrapi_1, wrapi_2, wrapi_3, wrapi_4]); simp only [Act.put, List.setIfInBounds_toArray, List.set_cons_zero, List.set_cons_succ])
    | (refine' plan_offE (by rfl) (by first | assumption | exact (by assumption)) ?_; (try simp only [wrapi_0, wrapi_1, wrapi_2, wrapi_3, wrapi_4]); simp only [Act.put, List.setIfInBounds_toArray, List.set_cons_zero, List.set_cons_succ])
    | (refine' plan_ld _ (by rfl) (fun w' hSw => ?_) ?_; rotate_left 1; (focus ((try dsimp only at hSw); skip; go_simp; try (with_reducible rfl))); (try simp only [wrapi_0, wrapi_1, wrapi_2, wrapi_3, wrapi_4]); simp only [Act.put, List.setIfInBounds_toArray, List.set_cons_zero, List.set_cons_succ]))
  refine plan_ef (fun K hK => ?_)
  go_simp
  refine (readName_any nm0 _ (by unfold maxLen at hnz; omega)).mono ?_
  rintro e w2 ⟨rfl, hB2⟩
  have hB2' : Below w1.heap.size w1 w2 := ((Below.refl _ w1).drew).trans hB2
  have HB2 := Aside0.mk (HB1.out.trans (hB2'.mono HB1.out.size))
  have HSC2 := Aside0.mk (HSC1.out.below hB2')
  have HG2 : Aside0 (gmap 9 w2 z.ab s.E.length D0) := ⟨gmap_heap HG1.out (hB2'.block _ HG1.out.lt)⟩
  have HCX2 := Aside0.mk (HCX.out.below hB2')
  refine hK.out _ _ (⟨HSC2.out, HG2.out⟩) (fun _ => ?_)
  clear hK K
  try (try simp only [wrapi_0, wrapi_1, wrapi_2, wrapi_3, wrapi_4]); simp only [Act.put, List.setIfInBounds_toArray, List.set_cons_zero, List.set_cons_succ]
  clear hB2 hB2'
  repeat (first
    | (refine' plan_pu _ (by rfl) (fun w' => ?_) ?_; rotate_left 1; (focus (go_simp; try (with_reducible rfl))); (try simp only [wrapi_0, wrapi_1, wrapi_2, wrapi_3, wrapi_4]); simp only [Act.put, List.setIfInBounds_toArray, List.set_cons_zero, List.set_cons_succ])
    | (refine' plan_off (by rfl) ?_; (try simp only [wrapi_0, wrapi_1, wrapi_2, wrapi_3, wrapi_4]); simp only [Act.put, List.setIfInBounds_toArray, List.set_cons_zero, List.set_cons_succ])
    | (refine' plan_offL (by rfl) ?_; (try simp only [wrapi_0, wrapi_1, wrapi_2, wrapi_3, wrapi_4]); simp only [Act.put, List.setIfInBounds_toArray, List.set_cons_zero, List.set_cons_succ])
    | (refine' plan_offE (by rfl) (by first | assumption | exact (by assumption)) ?_; (try simp only [wrapi_0, wrapi_1, wrapi_2, wrapi_3, wrapi_4]); simp only [Act.put, List.setIfInBounds_toArray, List.set_cons_zero, List.set_cons_succ])
    | (refine' plan_ld _ (by rfl) (fun w' hSw => ?_) ?_; rotate_left 1; (focus ((try dsimp only at hSw); skip; go_simp; try (with_reducible rfl))); (try simp only [wrapi_0, wrapi_1, wrapi_2, wrapi_3, wrapi_4]); simp only [Act.put, List.setIfInBounds_toArray, List.set_cons_zero, List.set_cons_succ]))
  refine plan_ef (fun K hK => ?_)
  go_simp
  refine (right_any sort _).mono ?_
  rintro e w3 ⟨rfl, hB3⟩
  have HB3 := Aside0.mk (HB2.out.trans (hB3.mono HB2.out.size))
  have HSC3 := Aside0.mk (HSC2.out.below hB3)
  have HG3 : Aside0 (gmap 9 w3 z.ab s.E.length D0) := ⟨gmap_heap HG2.out (hB3.block _ HG2.out.lt)⟩
  have HCX3 := Aside0.mk (HCX2.out.below hB3)
  refine hK.out _ _ (⟨HSC3.out, HG3.out⟩) (fun _ => ?_)
  clear hK K
  try (try simp only [wrapi_0, wrapi_1, wrapi_2, wrapi_3, wrapi_4]); simp only [Act.put, List.setIfInBounds_toArray, List.set_cons_zero, List.set_cons_succ]
  clear hB3
  repeat (first
    | (refine' plan_pu _ (by rfl) (fun w' => ?_) ?_; rotate_left 1; (focus (go_simp; try (with_reducible rfl))); (try simp only [wrapi_0, wrapi_1, wrapi_2, wrapi_3, wrapi_4]); simp only [Act.put, List.setIfInBounds_toArray, List.set_cons_zero, List.set_cons_succ])
    | (refine' plan_off (by rfl) ?_; (try simp only [wrapi_0, wrapi_1, wrapi_2, wrapi_3, wrapi_4]); simp only [Act.put, List.setIfInBounds_toArray, List.set_cons_zero, List.set_cons_succ])
    | (refine' plan_offL (by rfl) ?_; (try simp only [wrapi_0, wrapi_1, wrapi_2, wrapi_3, wrapi_4]); simp only [Act.put, List.setIfInBounds_toArray, List.set_cons_zero, List.set_cons_succ])
    | (refine' plan_offE (by rfl) (by first | assumption | exact (by assumption)) ?_; (try simp only [wrapi_0, wrapi_1, wrapi_2, wrapi_3, wrapi_4]); simp only [Act.put, List.setIfInBounds_toArray, List.set_cons_zero, List.set_cons_succ])
    | (refine' plan_ld _ (by rfl) (fun w' hSw => ?_) ?_; rotate_left 1; (focus ((try dsimp only at hSw); skip; go_simp; try (with_reducible rfl))); (try simp only [wrapi_0, wrapi_1, wrapi_2, wrapi_3, wrapi_4]); simp only [Act.put, List.setIfInBounds_toArray, List.set_cons_zero, List.set_cons_succ]))
  refine plan_nil ?_
  clear htb
  have hmm := @run_makeMap Tryz.prog
  have hD0 := World.ownsMap_made (H := Unit) w3 Tryz.prog 9 (plainElem Tryz.prog 3)
  have hB4 := HB3.out.alloc HB3.out.size (.map #[] 0)
  have hSC4 := HSC3.out.alloc (.map #[] 0)
  have hCX4 := HCX3.out.alloc (.map #[] 0)
  obtain ⟨w4, hw4⟩ : ∃ w4, w3.alloc (.map #[] 0) = w4 := ⟨_, rfl⟩
  rw [hw4] at hD0 hB4 hSC4 hCX4
  obtain ⟨mb, hmb⟩ : ∃ mb, w3.heap.size = mb := ⟨_, rfl⟩
  rw [hmb] at hD0
  have HMB : Aside0 (w.heap.size < mb) := ⟨by rw [← hmb]; exact HCX3.out.lt⟩
  have HD0 := Aside0.mk hD0
  have HB4 := Aside0.mk hB4
  have HSC4 := Aside0.mk hSC4
  have HCX4 := Aside0.mk hCX4
  have HGL := Aside0.mk HH.out.glt
  clear hD0 hB4 hSC4 hCX4
  go_wp2_with fail
  try rw [hw4]
  try rw [hmb]
  clear hw4 hmb hmm
  have HBQ : Aside0 (∀ wq, Mod (fun k => k = mb) w4 wq → Below w.heap.size w wq) := ⟨fun wq hm => HB4.out.trans (hm.belowB (fun k q => by have := HMB.out; omega) HB4.out.size)⟩
  go_loopw [11, 12, 13, 16, 31] (fun v11 v12 v13 v16 v31 wq => ∃ (j : Nat) (bn bs bt : Bool) (D : DataW Unit), j ≤ N ∧ v11 = .bool bn ∧ v12 = .bool bs ∧ v13 = .bool bt ∧ v31 = .int .i64 (j : Int) ∧ Aside0 (bn = (nameB nm0.data.toList && (ps.take j).all fun p => nameB p.1.data.toList)) ∧ Aside0 (bs = (isSort sort && (ps.take j).all fun p => isSort p.2)) ∧ Aside0 (bt = (tb || twiceV ((ps.take j).map (·.1)))) ∧ Aside0 (gmap 9 wq mb j D) ∧ Aside0 (CntOk D ((ps.take j).map (·.1))) ∧ Aside0 (Mod (fun k => k = mb) w4 wq)) (fun _ _ _ _ v31 _ => N - (intOf v31).toNat)
  case atStart => exact ⟨0, nameB nm0.data.toList, isSort sort, tb, _, by omega, rfl, rfl, rfl, rfl, ⟨by simp⟩, ⟨by simp⟩, ⟨by simp [twiceV]⟩, HD0, ⟨CntOk.nil⟩, ⟨Mod.refl _ _⟩⟩
  case round =>
    obtain ⟨j, bn, bs, bt, D, hj, rfl, rfl, rfl, rfl, HBN, HBS, HBT, HD, HCN, HM⟩ := hrel
    by_cases hlt : j < N
    · have j0 : (0 : Int) ≤ (j : Int) := by omega
      have j1 : (j : Int) < (N : Int) := by omega
      obtain ⟨p, hp⟩ : ∃ p, ps[j]? = some p := ⟨_, List.getElem?_eq_getElem (by rw [AN.out]; exact hlt)⟩
      have htk : ps.take (j + 1) = ps.take j ++ [p] := by rw [List.take_add_one, hp]; rfl
      obtain ⟨hpz, hp2, ad, rfl, had, q0, q1⟩ := HPA.out j p hp
      have q0 := cell_below (HBQ.out _ HM.out) q0
      have q1 := cell_below (HBQ.out _ HM.out) q1
      obtain ⟨nm, hnm⟩ : ∃ nm, p.1 = nm := ⟨_, rfl⟩
      obtain ⟨so, hso⟩ : ∃ so, p.2 = so := ⟨_, rfl⟩
      rw [hnm] at q0 hpz
      rw [hso] at q1
      have hkey := WideMaps.keyOf_string_mk (P := Tryz.prog) Tryz.underlying9 hpz
      have HKEY := Aside0.mk hkey
      have HTK : Aside0 (ps.take (j + 1) = ps.take j ++ [p] ∧ (ps.take (j + 1)).map (·.1) = (ps.take j).map (·.1) ++ [nm]) := ⟨htk, by rw [htk, List.map_append, ← hnm]; rfl⟩
      have HPN := Aside0.mk hnm
      have HPS := Aside0.mk hso
      obtain ⟨nb, hnb⟩ : ∃ nb, nameB nm.data.toList = nb := ⟨_, rfl⟩
      obtain ⟨sb, hsb⟩ : ∃ sb, isSort so = sb := ⟨_, rfl⟩
      have HNB := Aside0.mk hnb
      have HSB := Aside0.mk hsb
      obtain ⟨C, hC⟩ : ∃ C, cntV nm ((ps.take j).map (·.1)) = C := ⟨_, rfl⟩
      have hCl : C ≤ N := by
        have h1 := cnt_le nm ((ps.take j).map (·.1))
        rw [hC, List.length_map, List.length_take] at h1
        omega
      have hat0 := HCN.out nm hpz
      rw [hC] at hat0
      have HAT0 := Aside0.mk hat0
      have HCC := Aside0.mk hC
      have hC2 : (C : Int) ≤ 1000000 := by omega
      have hC3 : (0 : Int) ≤ (C : Int) := by omega
      have hjm : j < maxLen := by unfold maxLen; omega
      have HPZ := Aside0.mk hp2
      clear htk hp hkey hnm hso hat0 hC hnb hsb hp2 had
      go_upto_region 6 with (fail)
      have HQp := Aside0.mk (Cells.new wr 77 [.string nm, .int .i64 so])
      obtain ⟨wp, hwp⟩ : ∃ wp, wr.alloc (.cells #[.string nm, .int .i64 so] 77) = wp := ⟨_, rfl⟩
      have hBp : Below wr.heap.size wr wp := by rw [← hwp]; exact (Below.refl _ wr).alloc (Nat.le_refl _) _
      have hQp : Cells wp wr.heap.size 77 [.string nm, .int .i64 so] := by rw [← hwp]; exact Cells.new _ _ _
      obtain ⟨bq, hbq⟩ : ∃ bq, wr.heap.size = bq := ⟨_, rfl⟩
      have HMp := Aside0.mk (HM.out.trans (Mod.of_below hBp))
      have HDp : Aside0 (gmap 9 wp mb j D) := ⟨gmap_heap HD.out (hBp.block mb HD.out.lt)⟩
      have HQL : Aside0 (mb < bq) := ⟨by rw [← hbq]; exact HD.out.lt⟩
      try rw [hwp]
      rw [hbq] at hQp
      try rw [hbq]
      clear HQp
      have HQp := Aside0.mk hQp
      clear hwp hBp hQp hbq q0 q1
      have q0 := HQp.out.cell 0 _ rfl
      have q1 := HQp.out.cell 1 _ rfl
      cases bn with
      | true =>
        cases bs with
        | true =>
          go_wp2_with fail
          refine (readName_any nm _ (by unfold maxLen at hpz; omega)).mono ?_
          rintro e wa ⟨rfl, hBa⟩
          rw [HNB.out]
          have HMa := Aside0.mk (HMp.out.trans (Mod.of_below hBa))
          have HDa : Aside0 (gmap 9 wa mb j D) := ⟨gmap_heap HDp.out (hBa.block mb HDp.out.lt)⟩
          have HQa := Aside0.mk (HQp.out.below hBa)
          clear hBa
          clear q0 q1
          have q0 := HQa.out.cell 0 _ rfl
          have q1 := HQa.out.cell 1 _ rfl
          go_wp2_with fail
          refine (right_any so _).mono ?_
          rintro e wb ⟨rfl, hBb⟩
          rw [HSB.out]
          have HMb := Aside0.mk (HMa.out.trans (Mod.of_below hBb))
          have HDb : Aside0 (gmap 9 wb mb j D) := ⟨gmap_heap HDa.out (hBb.block mb HDa.out.lt)⟩
          have HQb := Aside0.mk (HQa.out.below hBb)
          clear hBb
          clear q0 q1
          have q0 := HQb.out.cell 0 _ rfl
          have q1 := HQb.out.cell 1 _ rfl
          go_upto_region 8 with (first | (at_lookup; refine wpList_lookup_own_int _ rfl _ _ 121 rfl 9 3 .i64 strLaw Tryz.underlying121 Tryz.underlying3 (Tryz.zeroInt _) mb j D rfl HDb.out _ _ rfl HKEY.out ?_; intro c hat hwc; obtain rfl : c = (C : Int) := (by have := hat.symm.trans HAT0.out; simpa using this); clear hat hwc) | (at_mapUpdate; refine wpList_mapUpdate_own _ rfl _ _ _ 121 rfl 9 3 strLaw Tryz.underlying121 _ mb j D rfl HDb.out hjm _ _ _ rfl rfl HKEY.out _ [] (plainElem_int Tryz.underlying3 (WalkArith.wf_i64 (by omega))) ?_; intro w4 hown4 hgr4))
          have hm4 : Mod (fun k => k = mb) wb w4 := (Mod.refl _ _).grown hgr4 (fun k hk => .inl (by simpa using hk.symm))
          have HM4 := Aside0.mk (HMb.out.trans hm4)
          have HQ4 := Aside0.mk (HQb.out.keep hm4 (by have := HQL.out; omega))
          have hcn := HCN.out.put HDb.out.isMap nm
          rw [HCC.out, show (((C + 1 : Nat)) : Int) = (C : Int) + 1 by omega, ← HTK.out.2] at hcn
          have HCN4 := Aside0.mk hcn
          have HD4 : Aside0 (gmap 9 w4 mb (j + 1) _) := ⟨hown4⟩
          have HAT4 : Aside0 ((D.put (.string nm.data.toList) (.lit (.int .i64 ((C : Int) + 1)))).atKey (.string nm.data.toList) (.lit (.int .i64 0)) = .lit (.int .i64 ((C : Int) + 1))) := ⟨Maps.atKey_put_same HDb.out.isMap (show WideAt.IsKeyLit (Lit.string nm.data.toList) from trivial) _ _⟩
          have HBN4 : Aside0 ((nb : Bool) = (nameB nm0.data.toList && (ps.take (j + 1)).all fun p => nameB p.1.data.toList)) := ⟨by rw [HTK.out.1, List.all_append, ← Bool.and_assoc, ← HBN.out]; simp [HPN.out, HNB.out]⟩
          have HBS4 : Aside0 ((sb : Bool) = (isSort sort && (ps.take (j + 1)).all fun p => isSort p.2)) := ⟨by rw [HTK.out.1, List.all_append, ← Bool.and_assoc, ← HBS.out]; simp [HPS.out, HSB.out]⟩
          have r0 := HQ4.out.cell 0 _ rfl
          clear hm4 hcn hown4 hgr4
          try clear q0 q1
          cases bt with
          | true =>
            go_wp2_with fail
            go_roundw
            case rel => exact ⟨j + 1, nb, sb, true, _, by omega, rfl, rfl, rfl, by go_num, HBN4, HBS4, ⟨by rw [HTK.out.2, twice_snoc, ← Bool.or_assoc, ← HBT.out]; rfl⟩, HD4, HCN4, HM4⟩
            case measure => simp [intOf]; omega
          | false =>
            by_cases hC0 : 0 < C
            · have c1 :  (1 : Int) < (C : Int) + 1 := by omega
              have HTB : Aside0 ((true : Bool) = (tb || twiceV ((ps.take (j + 1)).map (·.1)))) := ⟨by rw [HTK.out.2, twice_snoc, ← Bool.or_assoc, ← HBT.out, HCC.out, decide_eq_true hC0]; rfl⟩
              clear hC0
              obtain ⟨c, hrun, hat, _⟩ := HD4.out.lookup_int strLaw Tryz.underlying121 Tryz.underlying3 (Tryz.zeroInt _) HKEY.out
              obtain rfl : c = (C : Int) + 1 := (by have := hat.symm.trans HAT4.out; simpa using this)
              clear hat
              go_wp2_with fail
              go_roundw
              case rel => exact ⟨j + 1, nb, sb, true, _, by omega, rfl, rfl, rfl, by go_num, HBN4, HBS4, HTB, HD4, HCN4, HM4⟩
              case measure => simp [intOf]; omega
            · have c1 : ¬ (1 : Int) < (C : Int) + 1 := by omega
              have HTB : Aside0 ((false : Bool) = (tb || twiceV ((ps.take (j + 1)).map (·.1)))) := ⟨by rw [HTK.out.2, twice_snoc, ← Bool.or_assoc, ← HBT.out, HCC.out, decide_eq_false hC0]; rfl⟩
              clear hC0
              obtain ⟨c, hrun, hat, _⟩ := HD4.out.lookup_int strLaw Tryz.underlying121 Tryz.underlying3 (Tryz.zeroInt _) HKEY.out
              obtain rfl : c = (C : Int) + 1 := (by have := hat.symm.trans HAT4.out; simpa using this)
              clear hat
              go_wp2_with fail
              go_roundw
              case rel => exact ⟨j + 1, nb, sb, false, _, by omega, rfl, rfl, rfl, by go_num, HBN4, HBS4, HTB, HD4, HCN4, HM4⟩
              case measure => simp [intOf]; omega
        | false =>
          go_wp2_with fail
          refine (readName_any nm _ (by unfold maxLen at hpz; omega)).mono ?_
          rintro e wa ⟨rfl, hBa⟩
          rw [HNB.out]
          have HMa := Aside0.mk (HMp.out.trans (Mod.of_below hBa))
          have HDa : Aside0 (gmap 9 wa mb j D) := ⟨gmap_heap HDp.out (hBa.block mb HDp.out.lt)⟩
          have HQa := Aside0.mk (HQp.out.below hBa)
          clear hBa
          clear q0 q1
          have q0 := HQa.out.cell 0 _ rfl
          have q1 := HQa.out.cell 1 _ rfl
          go_upto_region 8 with (first | (at_lookup; refine wpList_lookup_own_int _ rfl _ _ 121 rfl 9 3 .i64 strLaw Tryz.underlying121 Tryz.underlying3 (Tryz.zeroInt _) mb j D rfl HDa.out _ _ rfl HKEY.out ?_; intro c hat hwc; obtain rfl : c = (C : Int) := (by have := hat.symm.trans HAT0.out; simpa using this); clear hat hwc) | (at_mapUpdate; refine wpList_mapUpdate_own _ rfl _ _ _ 121 rfl 9 3 strLaw Tryz.underlying121 _ mb j D rfl HDa.out hjm _ _ _ rfl rfl HKEY.out _ [] (plainElem_int Tryz.underlying3 (WalkArith.wf_i64 (by omega))) ?_; intro w4 hown4 hgr4))
          have hm4 : Mod (fun k => k = mb) wa w4 := (Mod.refl _ _).grown hgr4 (fun k hk => .inl (by simpa using hk.symm))
          have HM4 := Aside0.mk (HMa.out.trans hm4)
          have HQ4 := Aside0.mk (HQa.out.keep hm4 (by have := HQL.out; omega))
          have hcn := HCN.out.put HDa.out.isMap nm
          rw [HCC.out, show (((C + 1 : Nat)) : Int) = (C : Int) + 1 by omega, ← HTK.out.2] at hcn
          have HCN4 := Aside0.mk hcn
          have HD4 : Aside0 (gmap 9 w4 mb (j + 1) _) := ⟨hown4⟩
          have HAT4 : Aside0 ((D.put (.string nm.data.toList) (.lit (.int .i64 ((C : Int) + 1)))).atKey (.string nm.data.toList) (.lit (.int .i64 0)) = .lit (.int .i64 ((C : Int) + 1))) := ⟨Maps.atKey_put_same HDa.out.isMap (show WideAt.IsKeyLit (Lit.string nm.data.toList) from trivial) _ _⟩
          have HBN4 : Aside0 ((nb : Bool) = (nameB nm0.data.toList && (ps.take (j + 1)).all fun p => nameB p.1.data.toList)) := ⟨by rw [HTK.out.1, List.all_append, ← Bool.and_assoc, ← HBN.out]; simp [HPN.out, HNB.out]⟩
          have HBS4 : Aside0 ((false : Bool) = (isSort sort && (ps.take (j + 1)).all fun p => isSort p.2)) := ⟨by rw [HTK.out.1, List.all_append, ← Bool.and_assoc, ← HBS.out]; simp [HPS.out, HSB.out]⟩
          have r0 := HQ4.out.cell 0 _ rfl
          clear hm4 hcn hown4 hgr4
          try clear q0 q1
          cases bt with
          | true =>
            go_wp2_with fail
            go_roundw
            case rel => exact ⟨j + 1, nb, false, true, _, by omega, rfl, rfl, rfl, by go_num, HBN4, HBS4, ⟨by rw [HTK.out.2, twice_snoc, ← Bool.or_assoc, ← HBT.out]; rfl⟩, HD4, HCN4, HM4⟩
            case measure => simp [intOf]; omega
          | false =>
            by_cases hC0 : 0 < C
            · have c1 :  (1 : Int) < (C : Int) + 1 := by omega
              have HTB : Aside0 ((true : Bool) = (tb || twiceV ((ps.take (j + 1)).map (·.1)))) := ⟨by rw [HTK.out.2, twice_snoc, ← Bool.or_assoc, ← HBT.out, HCC.out, decide_eq_true hC0]; rfl⟩
              clear hC0
              obtain ⟨c, hrun, hat, _⟩ := HD4.out.lookup_int strLaw Tryz.underlying121 Tryz.underlying3 (Tryz.zeroInt _) HKEY.out
              obtain rfl : c = (C : Int) + 1 := (by have := hat.symm.trans HAT4.out; simpa using this)
              clear hat
              go_wp2_with fail
              go_roundw
              case rel => exact ⟨j + 1, nb, false, true, _, by omega, rfl, rfl, rfl, by go_num, HBN4, HBS4, HTB, HD4, HCN4, HM4⟩
              case measure => simp [intOf]; omega
            · have c1 : ¬ (1 : Int) < (C : Int) + 1 := by omega
              have HTB : Aside0 ((false : Bool) = (tb || twiceV ((ps.take (j + 1)).map (·.1)))) := ⟨by rw [HTK.out.2, twice_snoc, ← Bool.or_assoc, ← HBT.out, HCC.out, decide_eq_false hC0]; rfl⟩
              clear hC0
              obtain ⟨c, hrun, hat, _⟩ := HD4.out.lookup_int strLaw Tryz.underlying121 Tryz.underlying3 (Tryz.zeroInt _) HKEY.out
              obtain rfl : c = (C : Int) + 1 := (by have := hat.symm.trans HAT4.out; simpa using this)
              clear hat
              go_wp2_with fail
              go_roundw
              case rel => exact ⟨j + 1, nb, false, false, _, by omega, rfl, rfl, rfl, by go_num, HBN4, HBS4, HTB, HD4, HCN4, HM4⟩
              case measure => simp [intOf]; omega
      | false =>
        cases bs with
        | true =>
          go_wp2_with fail
          refine (right_any so _).mono ?_
          rintro e wb ⟨rfl, hBb⟩
          rw [HSB.out]
          have HMb := Aside0.mk (HMp.out.trans (Mod.of_below hBb))
          have HDb : Aside0 (gmap 9 wb mb j D) := ⟨gmap_heap HDp.out (hBb.block mb HDp.out.lt)⟩
          have HQb := Aside0.mk (HQp.out.below hBb)
          clear hBb
          clear q0 q1
          have q0 := HQb.out.cell 0 _ rfl
          have q1 := HQb.out.cell 1 _ rfl
          go_upto_region 8 with (first | (at_lookup; refine wpList_lookup_own_int _ rfl _ _ 121 rfl 9 3 .i64 strLaw Tryz.underlying121 Tryz.underlying3 (Tryz.zeroInt _) mb j D rfl HDb.out _ _ rfl HKEY.out ?_; intro c hat hwc; obtain rfl : c = (C : Int) := (by have := hat.symm.trans HAT0.out; simpa using this); clear hat hwc) | (at_mapUpdate; refine wpList_mapUpdate_own _ rfl _ _ _ 121 rfl 9 3 strLaw Tryz.underlying121 _ mb j D rfl HDb.out hjm _ _ _ rfl rfl HKEY.out _ [] (plainElem_int Tryz.underlying3 (WalkArith.wf_i64 (by omega))) ?_; intro w4 hown4 hgr4))
          have hm4 : Mod (fun k => k = mb) wb w4 := (Mod.refl _ _).grown hgr4 (fun k hk => .inl (by simpa using hk.symm))
          have HM4 := Aside0.mk (HMb.out.trans hm4)
          have HQ4 := Aside0.mk (HQb.out.keep hm4 (by have := HQL.out; omega))
          have hcn := HCN.out.put HDb.out.isMap nm
          rw [HCC.out, show (((C + 1 : Nat)) : Int) = (C : Int) + 1 by omega, ← HTK.out.2] at hcn
          have HCN4 := Aside0.mk hcn
          have HD4 : Aside0 (gmap 9 w4 mb (j + 1) _) := ⟨hown4⟩
          have HAT4 : Aside0 ((D.put (.string nm.data.toList) (.lit (.int .i64 ((C : Int) + 1)))).atKey (.string nm.data.toList) (.lit (.int .i64 0)) = .lit (.int .i64 ((C : Int) + 1))) := ⟨Maps.atKey_put_same HDb.out.isMap (show WideAt.IsKeyLit (Lit.string nm.data.toList) from trivial) _ _⟩
          have HBN4 : Aside0 ((false : Bool) = (nameB nm0.data.toList && (ps.take (j + 1)).all fun p => nameB p.1.data.toList)) := ⟨by rw [HTK.out.1, List.all_append, ← Bool.and_assoc, ← HBN.out]; simp [HPN.out, HNB.out]⟩
          have HBS4 : Aside0 ((sb : Bool) = (isSort sort && (ps.take (j + 1)).all fun p => isSort p.2)) := ⟨by rw [HTK.out.1, List.all_append, ← Bool.and_assoc, ← HBS.out]; simp [HPS.out, HSB.out]⟩
          have r0 := HQ4.out.cell 0 _ rfl
          clear hm4 hcn hown4 hgr4
          try clear q0 q1
          cases bt with
          | true =>
            go_wp2_with fail
            go_roundw
            case rel => exact ⟨j + 1, false, sb, true, _, by omega, rfl, rfl, rfl, by go_num, HBN4, HBS4, ⟨by rw [HTK.out.2, twice_snoc, ← Bool.or_assoc, ← HBT.out]; rfl⟩, HD4, HCN4, HM4⟩
            case measure => simp [intOf]; omega
          | false =>
            by_cases hC0 : 0 < C
            · have c1 :  (1 : Int) < (C : Int) + 1 := by omega
              have HTB : Aside0 ((true : Bool) = (tb || twiceV ((ps.take (j + 1)).map (·.1)))) := ⟨by rw [HTK.out.2, twice_snoc, ← Bool.or_assoc, ← HBT.out, HCC.out, decide_eq_true hC0]; rfl⟩
              clear hC0
              obtain ⟨c, hrun, hat, _⟩ := HD4.out.lookup_int strLaw Tryz.underlying121 Tryz.underlying3 (Tryz.zeroInt _) HKEY.out
              obtain rfl : c = (C : Int) + 1 := (by have := hat.symm.trans HAT4.out; simpa using this)
              clear hat
              go_wp2_with fail
              go_roundw
              case rel => exact ⟨j + 1, false, sb, true, _, by omega, rfl, rfl, rfl, by go_num, HBN4, HBS4, HTB, HD4, HCN4, HM4⟩
              case measure => simp [intOf]; omega
            · have c1 : ¬ (1 : Int) < (C : Int) + 1 := by omega
              have HTB : Aside0 ((false : Bool) = (tb || twiceV ((ps.take (j + 1)).map (·.1)))) := ⟨by rw [HTK.out.2, twice_snoc, ← Bool.or_assoc, ← HBT.out, HCC.out, decide_eq_false hC0]; rfl⟩
              clear hC0
              obtain ⟨c, hrun, hat, _⟩ := HD4.out.lookup_int strLaw Tryz.underlying121 Tryz.underlying3 (Tryz.zeroInt _) HKEY.out
              obtain rfl : c = (C : Int) + 1 := (by have := hat.symm.trans HAT4.out; simpa using this)
              clear hat
              go_wp2_with fail
              go_roundw
              case rel => exact ⟨j + 1, false, sb, false, _, by omega, rfl, rfl, rfl, by go_num, HBN4, HBS4, HTB, HD4, HCN4, HM4⟩
              case measure => simp [intOf]; omega
        | false =>
          go_upto_region 8 with (first | (at_lookup; refine wpList_lookup_own_int _ rfl _ _ 121 rfl 9 3 .i64 strLaw Tryz.underlying121 Tryz.underlying3 (Tryz.zeroInt _) mb j D rfl HDp.out _ _ rfl HKEY.out ?_; intro c hat hwc; obtain rfl : c = (C : Int) := (by have := hat.symm.trans HAT0.out; simpa using this); clear hat hwc) | (at_mapUpdate; refine wpList_mapUpdate_own _ rfl _ _ _ 121 rfl 9 3 strLaw Tryz.underlying121 _ mb j D rfl HDp.out hjm _ _ _ rfl rfl HKEY.out _ [] (plainElem_int Tryz.underlying3 (WalkArith.wf_i64 (by omega))) ?_; intro w4 hown4 hgr4))
          have hm4 : Mod (fun k => k = mb) wp w4 := (Mod.refl _ _).grown hgr4 (fun k hk => .inl (by simpa using hk.symm))
          have HM4 := Aside0.mk (HMp.out.trans hm4)
          have HQ4 := Aside0.mk (HQp.out.keep hm4 (by have := HQL.out; omega))
          have hcn := HCN.out.put HDp.out.isMap nm
          rw [HCC.out, show (((C + 1 : Nat)) : Int) = (C : Int) + 1 by omega, ← HTK.out.2] at hcn
          have HCN4 := Aside0.mk hcn
          have HD4 : Aside0 (gmap 9 w4 mb (j + 1) _) := ⟨hown4⟩
          have HAT4 : Aside0 ((D.put (.string nm.data.toList) (.lit (.int .i64 ((C : Int) + 1)))).atKey (.string nm.data.toList) (.lit (.int .i64 0)) = .lit (.int .i64 ((C : Int) + 1))) := ⟨Maps.atKey_put_same HDp.out.isMap (show WideAt.IsKeyLit (Lit.string nm.data.toList) from trivial) _ _⟩
          have HBN4 : Aside0 ((false : Bool) = (nameB nm0.data.toList && (ps.take (j + 1)).all fun p => nameB p.1.data.toList)) := ⟨by rw [HTK.out.1, List.all_append, ← Bool.and_assoc, ← HBN.out]; simp [HPN.out, HNB.out]⟩
          have HBS4 : Aside0 ((false : Bool) = (isSort sort && (ps.take (j + 1)).all fun p => isSort p.2)) := ⟨by rw [HTK.out.1, List.all_append, ← Bool.and_assoc, ← HBS.out]; simp [HPS.out, HSB.out]⟩
          have r0 := HQ4.out.cell 0 _ rfl
          clear hm4 hcn hown4 hgr4
          try clear q0 q1
          cases bt with
          | true =>
            go_wp2_with fail
            go_roundw
            case rel => exact ⟨j + 1, false, false, true, _, by omega, rfl, rfl, rfl, by go_num, HBN4, HBS4, ⟨by rw [HTK.out.2, twice_snoc, ← Bool.or_assoc, ← HBT.out]; rfl⟩, HD4, HCN4, HM4⟩
            case measure => simp [intOf]; omega
          | false =>
            by_cases hC0 : 0 < C
            · have c1 :  (1 : Int) < (C : Int) + 1 := by omega
              have HTB : Aside0 ((true : Bool) = (tb || twiceV ((ps.take (j + 1)).map (·.1)))) := ⟨by rw [HTK.out.2, twice_snoc, ← Bool.or_assoc, ← HBT.out, HCC.out, decide_eq_true hC0]; rfl⟩
              clear hC0
              obtain ⟨c, hrun, hat, _⟩ := HD4.out.lookup_int strLaw Tryz.underlying121 Tryz.underlying3 (Tryz.zeroInt _) HKEY.out
              obtain rfl : c = (C : Int) + 1 := (by have := hat.symm.trans HAT4.out; simpa using this)
              clear hat
              go_wp2_with fail
              go_roundw
              case rel => exact ⟨j + 1, false, false, true, _, by omega, rfl, rfl, rfl, by go_num, HBN4, HBS4, HTB, HD4, HCN4, HM4⟩
              case measure => simp [intOf]; omega
            · have c1 : ¬ (1 : Int) < (C : Int) + 1 := by omega
              have HTB : Aside0 ((false : Bool) = (tb || twiceV ((ps.take (j + 1)).map (·.1)))) := ⟨by rw [HTK.out.2, twice_snoc, ← Bool.or_assoc, ← HBT.out, HCC.out, decide_eq_false hC0]; rfl⟩
              clear hC0
              obtain ⟨c, hrun, hat, _⟩ := HD4.out.lookup_int strLaw Tryz.underlying121 Tryz.underlying3 (Tryz.zeroInt _) HKEY.out
              obtain rfl : c = (C : Int) + 1 := (by have := hat.symm.trans HAT4.out; simpa using this)
              clear hat
              go_wp2_with fail
              go_roundw
              case rel => exact ⟨j + 1, false, false, false, _, by omega, rfl, rfl, rfl, by go_num, HBN4, HBS4, HTB, HD4, HCN4, HM4⟩
              case measure => simp [intOf]; omega
    · have hall : j = N := by omega
      have htk : ps.take j = ps := by rw [hall, ← AN.out, List.take_length]
      have j1 : ¬ (j : Int) < (N : Int) := by omega
      have hbn := HBN.out
      have hbs := HBS.out
      have hbt := HBT.out
      rw [htk] at hbn hbs hbt
      rw [← HTB.out, HKK.out] at hbt
      have HBAD : Aside0 (defBad nm0 ps sort s.E s.defs = if bn = false then 50 else if bt = true then 52 else if bs = false then 53 else if s.defs = 256 then 55 else 0) := ⟨by unfold defBad; rw [hbn, hbs, hbt]⟩
      have HSCq := Aside0.mk (HSC4.out.keep HM.out (by have := HGL.out; have := HMB.out; omega))
      have HBF := Aside0.mk (HBQ.out _ HM.out)
      have HRB : Aside0 (∀ n : Int, n ≠ 0 → defBad nm0 ps sort s.E s.defs = n → R = (n, s)) := ⟨fun n h1 h2 => by rw [← HR.out]; unfold defF; rw [if_pos (by rw [h2]; exact h1), h2]⟩
      clear htk hbn hbs hbt hall
      cases bn with
      | false =>
        have hR := HRB.out 50 (by decide) (by rw [HBAD.out]; rfl)
        subst hR
        go_wp2_with fail
        go_returns
        exact ⟨rfl, HBB.out _ HBF.out⟩
      | true =>
        cases bt with
        | true =>
          have hR := HRB.out 52 (by decide) (by rw [HBAD.out]; rfl)
          subst hR
          go_wp2_with fail
          go_returns
          exact ⟨rfl, HBB.out _ HBF.out⟩
        | false =>
          cases bs with
          | false =>
            have hR := HRB.out 53 (by decide) (by rw [HBAD.out]; rfl)
            subst hR
            go_wp2_with fail
            go_returns
            exact ⟨rfl, HBB.out _ HBF.out⟩
          | true =>
            have c3 := HSCq.out.cell 3 _ rfl
            by_cases h256 : s.defs = 256
            · have hR := HRB.out 55 (by decide) (by rw [HBAD.out, if_neg (by decide), if_neg (by decide), if_neg (by decide), if_pos h256])
              subst hR
              have e1 : (s.defs : Int) = 256 := by omega
              rw [e1] at c3
              clear h256 e1
              go_wp2_with fail
              go_returns
              exact ⟨rfl, HBB.out _ HBF.out⟩
            · have h0 : defBad nm0 ps sort s.E s.defs = 0 := by rw [HBAD.out, if_neg (by decide), if_neg (by decide), if_neg (by decide), if_neg h256]
              have hR : R = (0, { s with E := s.E ++ [⟨nm0, true, ps, sort, x⟩], defs := s.defs + 1 }) := by rw [← HR.out]; unfold defF; rw [if_neg (by rw [h0]; simp)]
              subst hR
              have e1 : ¬ (s.defs : Int) = 256 := by omega
              have e2 : (s.defs : Int) ≤ 1000000 := by omega
              have e3 : (0 : Int) ≤ (s.defs : Int) := by omega
              have hex : exi nm0 s.E = 0 := by
                have := HBT.out
                rw [← HTB.out, HKK.out] at this
                simp only [Bool.false_eq, Bool.or_eq_false_iff, decide_eq_false_iff_not, Classical.not_not] at this
                exact this.1
              have HEX := Aside0.mk hex
              have f3 := HSCq.out.frozen 3
              obtain ⟨hS5, hM5⟩ := ((HH.out.below HBF.out)).count
              obtain ⟨w5, hw5⟩ : ∃ w5, wr.setCell ⟨z.sb, 3, none⟩ (.int .i64 ((s.defs : Int) + 1)) = w5 := ⟨_, rfl⟩
              rw [show ((s.defs + 1 : Nat) : Int) = (s.defs : Int) + 1 by omega, hw5] at hS5 hM5
              have HS5 := Aside0.mk hS5
              have HM5 := Aside0.mk hM5
              have HCX5 := Aside0.mk ((HCX4.out.keep HM.out (by have := HMB.out; omega)).keep hM5 (by have := HGL.out; omega))
              have HM05 : Aside0 (Mod (fun k => k = z.sb) w w5) := ⟨(Mod.of_below HBF.out).trans hM5⟩
              have HB5 : Aside0 (Below z.B w w5) := ⟨(HBF.out.mono hB).trans (hM5.belowB (fun k q => by rw [q]; exact HH.out.sb) (Nat.le_trans hB HBF.out.size))⟩
              have hm5s : ∀ k, NR z w k ∧ k ≠ z.sb → w5.heap[k]? = w.heap[k]? := fun k hk => (hM5.keep k (Nat.lt_of_lt_of_le hk.1.1 HBF.out.size) hk.2).trans (HBF.out.block k hk.1.1)
              have hl5s : ∀ k, NR z w k ∧ k ≠ z.sb → k < w5.heap.size := fun k hk => Nat.lt_of_lt_of_le hk.1.1 (Nat.le_trans HBF.out.size hM5.size)
              have hx5 : RT w5 (fun k => k < w5.heap.size) x [.string xw, .bool xl, .slice xa xk xc] := RT_move hm5s hl5s _ _ HX.out
              have hpa5 : ParS (fun k => k < w5.heap.size) w5 ps pa := HPA.out.move hm5s hl5s
              have HX5 := Aside0.mk hx5
              have HPA5 := Aside0.mk hpa5
              have HZ5 : Aside0 (w.heap.size ≤ w5.heap.size) := ⟨Nat.le_trans HBF.out.size hM5.size⟩
              clear h256 h0 hex hS5 hM5 hx5 hpa5 hm5s hl5s
              go_upto_region 19 with (fail)
              try rw [hw5]
              clear hw5 c3 f3
              refine wp_plan [(0, 0), (0, 1), (0, 2), (0, 4), (1, 5), (2, 3), (3, 6), (0, 7), (3, 8)] (fun w' => Cells w' w.heap.size 49 [.string xw, .bool xl, .slice xa xk xc]) (by kernel_rfl) (by kernel_rfl) (fun _ _ d _ _ h => by cases d <;> exact h) HCX5.out.drew ?_
              simp only [planOps, List.filterMap_cons, List.filterMap_nil, List.getElem?_toArray, List.getElem?_cons_zero, List.getElem?_cons_succ, Option.map_some]
              repeat (first
                | (refine' plan_pu _ (by rfl) (fun w' => ?_) ?_; rotate_left 1; (focus (go_simp; try (with_reducible rfl))); (try simp only [wrapi_0, wrapi_1, wrapi_2, wrapi_3, wrapi_4]); simp only [Act.put, List.setIfInBounds_toArray, List.set_cons_zero, List.set_cons_succ])
                | (refine' plan_off (by rfl) ?_; (try simp only [wrapi_0, wrapi_1, wrapi_2, wrapi_3, wrapi_4]); simp only [Act.put, List.setIfInBounds_toArray, List.set_cons_zero, List.set_cons_succ])
                | (refine' plan_offL (by rfl) ?_; (try simp only [wrapi_0, wrapi_1, wrapi_2, wrapi_3, wrapi_4]); simp only [Act.put, List.setIfInBounds_toArray, List.set_cons_zero, List.set_cons_succ])
                | (refine' plan_offE (by rfl) (by first | assumption | exact (by assumption)) ?_; (try simp only [wrapi_0, wrapi_1, wrapi_2, wrapi_3, wrapi_4]); simp only [Act.put, List.setIfInBounds_toArray, List.set_cons_zero, List.set_cons_succ])
                | (refine' plan_ld _ (by rfl) (fun w' hSw => ?_) ?_; rotate_left 1; (focus ((try dsimp only at hSw); have x0 := hSw.cell 0 _ rfl; have x1 := hSw.cell 1 _ rfl; have x2 := hSw.cell 2 _ rfl; go_simp; try (with_reducible rfl))); (try simp only [wrapi_0, wrapi_1, wrapi_2, wrapi_3, wrapi_4]); simp only [Act.put, List.setIfInBounds_toArray, List.set_cons_zero, List.set_cons_succ]))
              obtain ⟨w6, hw6⟩ : ∃ w6, w5.drew = w6 := ⟨_, rfl⟩
              have HB56 : Aside0 (Below w5.heap.size w5 w6) := ⟨by rw [← hw6]; exact (Below.refl _ w5).drew⟩
              rw [hw6]
              clear hw6
              obtain ⟨v7, w7, hrun7, hown7, hB7⟩ := copy_params w6 ps pa pc 62 (HPA5.out.move (fun k hk => HB56.out.block k hk) (fun _ h => h)) (by rw [AN.out]; exact hpl)
              rw [AN.out] at hrun7
              have hs7 : w5.heap.size ≤ w6.heap.size := HB56.out.size
              obtain ⟨pa7, pc7, rfl, hpc7, hpm7, hpar7⟩ := par_own HPA5.out hown7 (T := FX z w7) (fun k hk => by
                obtain ⟨l, hl⟩ := own_cells hown7 k hk
                exact FX.fresh HS5.out (Nat.le_trans hs7 (own_base_le hown7 k hk)) hl (by decide) (by decide) (by decide))
              have HB57 := Aside0.mk (HB56.out.trans (hB7.mono hs7))
              have HPAR := Aside0.mk hpar7
              have HPC := Aside0.mk (And.intro hpc7 hpm7)
              have HS7 := Aside0.mk (HS5.out.below HB57.out)
              rw [AN.out] at hrun7
              refine plan_ef (fun K hK => ?_)
              refine ap_run w6 62 _ _ (.slice none 0 0) (.slice pa N pc) (.slice pa7 N pc7) w7 (by rfl) rfl (by rfl) (by rfl) hrun7 ?_
              refine hK.out _ _ (HCX5.out.below HB57.out) (fun _ => ?_)
              clear hK K hrun7 hown7 hpc7 hpm7 hpar7 hs7 hB7
              try simp only [Act.put, List.setIfInBounds_toArray, List.set_cons_zero, List.set_cons_succ]
              refine plan_fi (fun K hK => ?_)
              go_simp
              refine (own_any x.dep x (Nat.le_refl _) _ w7 (RT_move (fun k hk => HB57.out.block k hk) (fun k hk => Nat.lt_of_lt_of_le hk HB57.out.size) _ _ HX5.out)).mono ?_
              rintro e w8 ⟨⟨c', rfl, hrt8⟩, hB8⟩
              obtain ⟨a8, k8, rfl, _, hk8, _, _⟩ := RT_cells hrt8
              have hkk8 := (RT_cells hrt8)
              rw [AXW.out, AXL.out, AXK.out] at hrt8 ⊢
              have HS8 := Aside0.mk (HS7.out.below hB8)
              have HM8 := Aside0.mk ((HM05.out.trans (Mod.of_below HB57.out)).trans (Mod.of_below hB8))
              have hB08 : Below z.B w w8 := (HB5.out.trans (HB57.out.mono (Nat.le_trans hB HZ5.out))).trans (hB8.mono (Nat.le_trans hB (Nat.le_trans HZ5.out HB57.out.size)))
              have HB08 := Aside0.mk hB08
              have HPAR8 := Aside0.mk (HPAR.out.move (S' := FX z w8) (fun k hk => hB8.block k hk.1.1) (fun k hk => hk.next (KR.of_below hB8)))
              have hrt9 : RT w8 (FX z w8) x [.string xw, .bool xl, .slice a8 xk k8] := RT_move (fun _ _ => rfl) (fun k hk => by
                obtain ⟨l, hl⟩ := hk.2.2
                exact FX.fresh HS7.out hk.1 hl (by decide) (by decide) (by decide)) _ _ hrt8
              have HRT9 := Aside0.mk hrt9
              refine hK.out _ _ ?_
              clear hK K hrt8 hkk8 hrt9 hB8 hB08
              repeat (first
                | (refine' plan_pu _ (by rfl) (fun w' => ?_) ?_; rotate_left 1; (focus (go_simp; try (with_reducible rfl))); (try simp only [wrapi_0, wrapi_1, wrapi_2, wrapi_3, wrapi_4]); simp only [Act.put, List.setIfInBounds_toArray, List.set_cons_zero, List.set_cons_succ])
                | (refine' plan_off (by rfl) ?_; (try simp only [wrapi_0, wrapi_1, wrapi_2, wrapi_3, wrapi_4]); simp only [Act.put, List.setIfInBounds_toArray, List.set_cons_zero, List.set_cons_succ])
                | (refine' plan_offL (by rfl) ?_; (try simp only [wrapi_0, wrapi_1, wrapi_2, wrapi_3, wrapi_4]); simp only [Act.put, List.setIfInBounds_toArray, List.set_cons_zero, List.set_cons_succ])
                | (refine' plan_offE (by rfl) (by first | assumption | exact (by assumption)) ?_; (try simp only [wrapi_0, wrapi_1, wrapi_2, wrapi_3, wrapi_4]); simp only [Act.put, List.setIfInBounds_toArray, List.set_cons_zero, List.set_cons_succ])
                | (refine' plan_ld _ (by rfl) (fun w' hSw => ?_) ?_; rotate_left 1; (focus ((try dsimp only at hSw); skip; go_simp; try (with_reducible rfl))); (try simp only [wrapi_0, wrapi_1, wrapi_2, wrapi_3, wrapi_4]); simp only [Act.put, List.setIfInBounds_toArray, List.set_cons_zero, List.set_cons_succ]))
              obtain ⟨vl8, cs8, hI8, hE8⟩ := HS8.out.sc
              obtain ⟨en, hen⟩ : ∃ en : Ent, en = ⟨nm0, true, ps, sort, x⟩ := ⟨_, rfl⟩
              have he : EntS (FX z w8) w8 en [.string nm0, .bool true, .slice pa7 N pc7, .int .i64 sort, .string xw, .bool xl, .slice a8 xk k8] := by
                subst hen
                refine ⟨pa7, pc7, a8, k8, ?_, by show ps.length ≤ pc7; rw [AN.out]; exact AN.out ▸ HPC.out.1, HPC.out.2, HPAR8.out, ?_, HNZ.out, HSO.out⟩
                · show _ = [Value.string nm0, .bool true, .slice pa7 ps.length pc7, .int .i64 sort, .string x.word, .bool x.list, .slice a8 x.kids.length k8]
                  rw [AN.out, AXW.out, AXL.out, AXK.out]
                · show RT w8 (FX z w8) x [.string x.word, .bool x.list, .slice a8 x.kids.length k8]
                  rw [AXW.out, AXL.out, AXK.out]; exact HRT9.out
              have heo : EntOk z w8 en _ := EntS.ok (he.move (fun _ _ => rfl) (fun k hk => hk.1))
              have hsz8 : z.B ≤ w8.heap.size := Nat.le_trans hB HM8.out.size
              have hnm : en.name = nm0 := by rw [hen]
              have hla := lay_any z w8 s.E vl8 cs8 ((s.defs + 1 : Nat) : Int) en _ hI8 hsz8 HS8.out.sb HS8.out.ab heo (by rw [hnm]; exact HEX.out) hn
              have HLA := Aside0.mk hla
              have HFIN : Aside0 (∀ w' vl', LayPost z w8 s.E vl8 cs8 ((s.defs + 1 : Nat) : Int) en [.string nm0, .bool true, .slice pa7 N pc7, .int .i64 sort, .string xw, .bool xl, .slice a8 xk k8] w' vl' → SS z w' { s with E := s.E ++ [en], defs := s.defs + 1 } ∧ Mod (SZ z w) w w' ∧ Below z.B w w') := ⟨fun w' vl' P => by
                refine ⟨SS.laid (s := { E := s.E, G := s.G, defs := s.defs + 1 }) HS8.out.nowk HS8.out.gi hI8 hE8 HS8.out.sb HS8.out.ab HS8.out.eb he hn P (fun e' he' hd => ?_) rfl, ?_, HB08.out.trans P.below⟩
                · rcases List.mem_append.1 he' with q | q
                  · exact HS8.out.dec e' q hd
                  · rw [List.mem_singleton] at q
                    subst q
                    rw [hen] at hd; cases hd
                · have h1 := HM8.out
                  refine ⟨P.mod.os.trans h1.os, P.mod.tape.trans h1.tape, P.mod.output.trans h1.output, Nat.le_trans h1.size P.mod.size, fun k hk hnk => (P.mod.keep k (Nat.lt_of_lt_of_le hk h1.size) (fun q => ?_)).trans (h1.keep k hk (fun q => hnk (.inr (.inl q))))⟩
                  rcases q with q | q | q
                  · exact hnk (.inr (.inl q))
                  · exact hnk (.inr (.inr (.inl q)))
                  · obtain ⟨l, hl⟩ := own_cells hI8.row k q
                    exact hnk (.inr (.inr (.inr ⟨l, by unfold Cells at hl ⊢; rw [← h1.keep k hk (fun q => hnk (.inr (.inl q)))]; exact hl⟩)))⟩
              have HEN := Aside0.mk hen
              clear hla he heo hI8 hE8 hsz8 hnm hen
              refine plan_fi (fun K hK => ?_)
              go_simp
              refine HLA.out.mono ?_
              rintro e w9 ⟨rfl, vl', hP⟩
              have hf := HFIN.out _ _ hP
              rw [HEN.out] at hf
              have HF := Aside0.mk hf
              refine hK.out _ _ ?_
              clear hK K hP hf
              refine plan_nil ?_
              go_wp2_with fail
              go_returns
              exact ⟨rfl, HF.out⟩
end Go.Proofs.YthhnhbpmpdminaaGreatDoor
