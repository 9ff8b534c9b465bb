/-
read.worker: body, of term. Conditions: the reader in memory.
-/
import Derived.Test.YthhnhbpmpdminaaGreatDoorXO
namespace Go.Proofs.YthhnhbpmpdminaaGreatDoor
set_option maxRecDepth 4096
set_option maxHeartbeats 8000000
set_option linter.unusedSimpArgs false
set_option linter.unusedVariables false
set_option linter.unnecessarySimpa false
open Go.RowKit Go.Proofs.YthhnhbpmpdminaaGreatDoorW.PrintWords Go.Maps
section
variable (z : Zr) (w : World) (E : List Ent) (vl : Value) (cs : List Value) (defs : Int) (r : Rd)
/-- Numbers of nodes that a slice holds, or none. -/
def IdV (z : Zr) (w : World) (ids : List Nat) (v : Value) : Prop := ∃ A c, v = .slice A ids.length c ∧ (ids ≠ [] → ∃ b, A = some ⟨b, 0, none⟩ ∧ IdOk z w ids b)
theorem RI.fresh {z : Zr} {w w' : World} {E : List Ent} {vl : Value} {cs : List Value} {defs : Int} {r : Rd} (h : RI z w E vl cs defs r) {k t : Nat} {l : List Value} (hc : Cells w' k t l) (ht : t ≠ 112) (hk : w.heap.size ≤ k) : NR z w' k := by
  obtain ⟨vn, hg⟩ := h.gi
  obtain ⟨D, hD, _⟩ := hg.ids
  obtain ⟨D2, hD2, _⟩ := hg.names
  have a1 := hg.cells.lt
  have a2 := hD.lt
  have a3 := hD2.lt
  have a4 := h.wk.lt
  exact NR.new hc ht (by omega) (by omega) (by omega) (by omega)
theorem body_any (rec : Tm) (d : Nat) (hd : d ≤ 900) (ht : TermC z E vl cs defs rec (d + 1)) (en : Ent) (ec : List Value) (i : Nat) (ids : List Nat) (idv : Value) (p : Option Addr) (lim : Nat) (hE : EntOk z w en ec) (hids : IdV z w ids idv) (hlen : ids.length = en.params.length) (hi : 1 ≤ i) (hiE : i ≤ E.length) (hbo : BndOk ((en.params.map (·.1)).zip ids).reverse r.G) (hr : TmOk E rec rec) (h : RI z w E vl cs defs r) (hB : z.B ≤ w.heap.size) (hn : r.n ≤ 65536) :
    Calls Tryz.prog 148 #[.pointer (some ⟨z.wb, 0, none⟩), .agg ec.toArray, .int .i64 (i : Int), idv, plV p lim d] w fun e w' => RPost z w E vl cs defs (bodyF rec en i ids r) e w' := by
  obtain ⟨i, rfl⟩ : ∃ k, i = k + 1 := ⟨i - 1, by omega⟩
  obtain ⟨R, hR⟩ : ∃ R, bodyF rec en (i + 1) ids r = R := ⟨_, rfl⟩
  rw [Int.natCast_succ]
  rw [hR]
  obtain ⟨pa, pc, ba, bc, rfl, hp1, hp2, hpar, hrt, hns, hso⟩ := hE
  obtain ⟨A, c, rfl, hA⟩ := hids
  unfold plV
  have hb2 := ((Below.refl _ w).alloc (Nat.le_refl _) (.cells #[.string en.name, .bool en.defined, .slice pa en.params.length pc, .int .i64 en.sort, .string en.body.word, .bool en.body.list, .slice ba en.body.kids.length bc] 129)).alloc (by simp) (.cells #[.pointer p, .int .i64 (lim : Int), .int .i64 (d : Int)] 139)
  have hx := (Cells.new w 129 [.string en.name, .bool en.defined, .slice pa en.params.length pc, .int .i64 en.sort, .string en.body.word, .bool en.body.list, .slice ba en.body.kids.length bc]).alloc (.cells #[.pointer p, .int .i64 (lim : Int), .int .i64 (d : Int)] 139)
  have hp : Cells ((w.alloc (.cells #[.string en.name, .bool en.defined, .slice pa en.params.length pc, .int .i64 en.sort, .string en.body.word, .bool en.body.list, .slice ba en.body.kids.length bc] 129)).alloc (.cells #[.pointer p, .int .i64 (lim : Int), .int .i64 (d : Int)] 139)) (w.heap.size + 1) 139 [.pointer p, .int .i64 (lim : Int), .int .i64 (d : Int)] := by
    have := Cells.new (w.alloc (.cells #[.string en.name, .bool en.defined, .slice pa en.params.length pc, .int .i64 en.sort, .string en.body.word, .bool en.body.list, .slice ba en.body.kids.length bc] 129)) 139 [.pointer p, .int .i64 (lim : Int), .int .i64 (d : Int)]
    simpa using this
  go_enter Tryz.func148, Tryz.ntmps148
  go_upto_region 1 with (fail)
  obtain ⟨w2, hw2⟩ : ∃ w2, (w.alloc (.cells #[.string en.name, .bool en.defined, .slice pa en.params.length pc, .int .i64 en.sort, .string en.body.word, .bool en.body.list, .slice ba en.body.kids.length bc] 129)).alloc (.cells #[.pointer p, .int .i64 (lim : Int), .int .i64 (d : Int)] 139) = w2 := ⟨_, rfl⟩
  rw [hw2] at hb2 hx hp ⊢
  clear hw2
  have k2 : KR z w w2 := KR.of_below hb2
  have HI := Aside0.mk (h.below hb2)
  have HB2 := Aside0.mk hb2
  have HX := Aside0.mk hx
  have HP := Aside0.mk hp
  have HPA := Aside0.mk (hpar.next k2)
  have HA : Aside0 (ids ≠ [] → ∃ b, A = some ⟨b, 0, none⟩ ∧ IdOk z w2 ids b) := ⟨fun q => by
    obtain ⟨b, h1, h2⟩ := hA q
    exact ⟨b, h1, h2.next k2⟩⟩
  have HRT := Aside0.mk (NR.tree k2 hrt)
  have HT := Aside0.mk ht
  have HR := Aside0.mk hR
  have HBO := Aside0.mk hbo
  have HRR := Aside0.mk hr
  have HH := Aside0.mk h
  have HLEN := Aside0.mk hlen
  have x2 := hx.cell 2 _ rfl
  clear h hb2 hx hp k2 hpar hA hrt ht hR hbo hr hns hlen
  go_wp2_with fail
  go_loopw [12, 20] (fun v12 v20 wr => ∃ (j : Nat) (q : Option Addr), j ≤ en.params.length ∧ v20 = .int .i64 (j : Int) ∧ v12 = .pointer q ∧ Aside0 (BL z wr (((en.params.map (·.1)).zip ids).take j).reverse q) ∧ Aside0 (Below w2.heap.size w2 wr)) (fun _ v20 _ => en.params.length - (intOf v20).toNat)
  case atStart => exact ⟨0, none, by omega, rfl, rfl, ⟨rfl⟩, ⟨Below.refl _ _⟩⟩
  case round =>
    obtain ⟨j, q, hj, rfl, rfl, HBL, HB'⟩ := hrel
    by_cases hlt : j < en.params.length
    · have hlt' : (j : Int) < (en.params.length : Int) := by omega
      obtain ⟨pm, hpm⟩ : ∃ pm, en.params[j]? = some pm := ⟨_, List.getElem?_eq_getElem hlt⟩
      obtain ⟨id, hid⟩ : ∃ id, ids[j]? = some id := ⟨_, List.getElem?_eq_getElem (by have := HLEN.out; omega)⟩
      obtain ⟨hps, hpi, ad, rfl, had, y0, y1⟩ := (HPA.out.next (KR.of_below HB'.out)) j pm hpm
      obtain ⟨bi, rfl, hio⟩ := HA.out (fun q => by rw [q] at hid; cases hid)
      have hcell := ((hio.next (KR.of_below HB'.out)).2 j id hid).1
      have HPM := Aside0.mk hpm
      have HID := Aside0.mk hid
      have hj2 : (j : Int) < (ids.length : Int) := by have := HLEN.out; omega
      have hc1 := Cells.new wr 77 [.string pm.1, .int .i64 pm.2]
      have hb1 := (Below.refl _ wr).alloc (Nat.le_refl _) (.cells #[.string pm.1, .int .i64 pm.2] 77)
      have hcell1 : (wr.alloc (.cells #[.string pm.1, .int .i64 pm.2] 77)).cell? ⟨bi, j, none⟩ = some (.int .i64 (id : Int)) := NR.cell (hio.1.next (KR.of_below HB'.out)) (KR.of_below hb1) hcell
      clear hpm hid hio had
      go_upto_region 5 with (fail)
      obtain ⟨w3, hw3⟩ : ∃ w3, wr.alloc (.cells #[.string pm.1, .int .i64 pm.2] 77) = w3 := ⟨_, rfl⟩
      have hc1 : Cells w3 wr.heap.size 77 [.string pm.1, .int .i64 pm.2] := by rw [← hw3]; exact hc1
      rw [hw3] at hb1 hcell1 ⊢
      have HB3 := Aside0.mk hb1
      have y2 := hc1.cell 0 _ rfl
      clear hw3 hc1 hb1
      refine wp_plan [(0, 0), (0, 2), (0, 3), (0, 4), (0, 6), (1, 1), (1, 5), (0, 7), (3, 8), (0, 9)] (fun w' => w' = _) (by kernel_rfl) (by kernel_rfl) (fun _ _ d _ _ h => by cases d <;> exact h) rfl ?_
      simp only [planOps, List.filterMap_cons, List.filterMap_nil, List.getElem?_toArray, List.getElem?_cons_zero, List.getElem?_cons_succ, Option.map_some]
      repeat (first
        | (refine' plan_pu _ (by rfl) (fun w' => ?_) ?_; rotate_left 1; (focus (go_simp; try (with_reducible rfl))); (try simp only [wrapi_0, wrapi_1, wrapi_2, wrapi_3, wrapi_4, wrapi_0]); simp only [Act.put, List.setIfInBounds_toArray, List.set_cons_zero, List.set_cons_succ])
        | (refine' plan_off (by rfl) ?_; (try simp only [wrapi_0, wrapi_1, wrapi_2, wrapi_3, wrapi_4, wrapi_0]); simp only [Act.put, List.setIfInBounds_toArray, List.set_cons_zero, List.set_cons_succ])
        | (refine' plan_offL (by rfl) ?_; (try simp only [wrapi_0, wrapi_1, wrapi_2, wrapi_3, wrapi_4, wrapi_0]); simp only [Act.put, List.setIfInBounds_toArray, List.set_cons_zero, List.set_cons_succ])
        | (refine' plan_ld _ (by rfl) (fun w' hSw => ?_) ?_; rotate_left 1; (focus (subst hSw; go_simp; try (with_reducible rfl))); (try simp only [wrapi_0, wrapi_1, wrapi_2, wrapi_3, wrapi_4, wrapi_0]); simp only [Act.put, List.setIfInBounds_toArray, List.set_cons_zero, List.set_cons_succ]))
      refine plan_fi (fun K hK => ?_)
      go_simp
      refine hK.out _ _ ?_
      clear hK K
      repeat (first
        | (refine' plan_pu _ (by rfl) (fun w' => ?_) ?_; rotate_left 1; (focus (go_simp; try (with_reducible rfl))); (try simp only [wrapi_0, wrapi_1, wrapi_2, wrapi_3, wrapi_4]); simp only [Act.put, List.setIfInBounds_toArray, List.set_cons_zero, List.set_cons_succ])
        | (refine' plan_off (by rfl) ?_; (try simp only [wrapi_0, wrapi_1, wrapi_2, wrapi_3, wrapi_4]); simp only [Act.put, List.setIfInBounds_toArray, List.set_cons_zero, List.set_cons_succ])
        | (refine' plan_offL (by rfl) ?_; (try simp only [wrapi_0, wrapi_1, wrapi_2, wrapi_3, wrapi_4]); simp only [Act.put, List.setIfInBounds_toArray, List.set_cons_zero, List.set_cons_succ])
        | (refine' plan_offE (by rfl) (by first | assumption | exact (by assumption)) ?_; (try simp only [wrapi_0, wrapi_1, wrapi_2, wrapi_3, wrapi_4]); simp only [Act.put, List.setIfInBounds_toArray, List.set_cons_zero, List.set_cons_succ])
        | (refine' plan_ld _ (by rfl) (fun w' hSw => ?_) ?_; rotate_left 1; (focus ((try dsimp only at hSw); skip; go_simp; try (with_reducible rfl))); (try simp only [wrapi_0, wrapi_1, wrapi_2, wrapi_3, wrapi_4]); simp only [Act.put, List.setIfInBounds_toArray, List.set_cons_zero, List.set_cons_succ]))
      refine plan_nil ?_
      have hb4 := (HB3.out.alloc HB3.out.size (.cells #[.string pm.1, .int .i64 (id : Int), .pointer q] 294)).drew
      have hc4 : Cells ((w3.alloc (.cells #[.string pm.1, .int .i64 (id : Int), .pointer q] 294)).drew) w3.heap.size 294 [.string pm.1, .int .i64 (id : Int), .pointer q] := (Cells.new w3 _ _).drew
      obtain ⟨w4, hw4⟩ : ∃ w4, (w3.alloc (.cells #[.string pm.1, .int .i64 (id : Int), .pointer q] 294)).drew = w4 := ⟨_, rfl⟩
      rw [hw4] at hb4 hc4 ⊢
      clear hw4
      have HB4 := Aside0.mk hb4
      have HC4 := Aside0.mk hc4
      clear hb4 hc4
      go_wp2_with fail
      have hz : w2.heap.size ≤ w3.heap.size := Nat.le_trans HB'.out.size HB3.out.size
      refine ⟨⟨j + 1, some ⟨w3.heap.size, 0, none⟩, by omega, by simp, rfl, ⟨?_⟩, ⟨HB'.out.trans (HB4.out.mono HB'.out.size)⟩⟩, by simp only [intOf]; omega⟩
      have hzz : ((en.params.map (·.1)).zip ids)[j]? = some (pm.1, id) := by
        rw [List.getElem?_zip_eq_some]
        exact ⟨by rw [List.getElem?_map, HPM.out]; rfl, HID.out⟩
      obtain ⟨hz1, hz2⟩ := List.getElem?_eq_some_iff.1 hzz
      rw [List.take_succ_eq_append_getElem hz1, hz2, List.reverse_append]
      exact ⟨w3.heap.size, q, rfl, HI.out.fresh HC4.out (by decide) hz, hps, HC4.out, BL.next (KR.of_below HB4.out) HBL.out⟩
    · obtain rfl : j = en.params.length := by omega
      clear hlt
      have x3 := (HX.out.below HB'.out).cell 3 _ rfl
      have x4 := (HX.out.below HB'.out).cell 4 _ rfl
      have x5 := (HX.out.below HB'.out).cell 5 _ rfl
      have x6 := (HX.out.below HB'.out).cell 6 _ rfl
      have p2 := (HP.out.below HB'.out).cell 2 _ rfl
      have hw1 : wrap64 (i : Int) = (i : Int) := by unfold wrap64; have := HH.out.sc.len; omega
      have hw2 : wrap64 ((d : Int) + 1) = (d : Int) + 1 := by unfold wrap64; omega
      go_wp2_with fail
      have kr : KR z w wr := KR.of_below (HB2.out.trans (HB'.out.mono HB2.out.size))
      have hT := HT.out wr r en.body _ (((en.params.map (·.1)).zip ids).reverse) q i (HH.out.below (HB2.out.trans (HB'.out.mono HB2.out.size))) (Nat.le_trans hB kr.size) (NR.tree (KR.of_below HB'.out) HRT.out) (by
        have := HBL.out
        rw [List.take_of_length_le (by simp [HLEN.out])] at this
        exact this) HBO.out (by omega) hn
      unfold plV at hT
      rw [show ((d + 1 : Nat) : Int) = (d : Int) + 1 from Int.natCast_succ d] at hT
      have hag := HRR.out en.body (((en.params.map (·.1)).zip ids).reverse) i i r.G (Nat.le_refl _) HBO.out HH.out.dec r (.refl _) hn
      have hS := HR.out
      unfold bodyF at hS
      rw [Nat.add_sub_cancel] at hS
      obtain ⟨⟨⟨id, er⟩, r2⟩, hrr⟩ : ∃ rr, rec en.body (((en.params.map (·.1)).zip ids).reverse) i r = rr := ⟨_, rfl⟩
      rw [hrr] at hT hag hS
      have HAG := Aside0.mk hag
      have HS := Aside0.mk hS
      refine hT.mono ?_
      clear hT hag hS hrr
      rintro e w5 ⟨rfl, g1, g2, g3⟩
      dsimp only at g1 ⊢
      have G1 := Aside0.mk g1
      have G2 := Aside0.mk (kr.trans g2)
      have G3 := Aside0.mk ((HB2.out.mono hB).trans ((HB'.out.mono (Nat.le_trans hB HB2.out.size)).trans g3))
      have HX5 := Aside0.mk (NR.cells (HX.out.below HB'.out) (HH.out.fresh (HX.out.below HB'.out) (by decide) (Nat.le_refl _)) g2)
      clear x2 x3 x4 x5 x6 p2 g1 g2 g3
      by_cases he : er = 0
      · subst he
        have hi := HAG.out.2.2 rfl
        have h1 := hi.2.1
        have h2 := hi.2.2.1
        clear hi
        obtain ⟨so, hso2⟩ : ∃ s, sortAt r2.G.l (id : Int) = s := ⟨_, rfl⟩
        have HS2 : Aside0 ((if so ≠ en.sort then failF 53 r2 else ((id, 0), r2)) = R) := ⟨by
          have := HS.out
          unfold thenF at this
          rw [if_neg (by simp)] at this
          dsimp only at this
          rw [hso2] at this
          exact this⟩
        have HW := (wsort_any z w5.drew E vl cs defs r2 id h1 h2 (G1.out.below ((Below.refl _ w5).drew)))
        rw [hso2] at HW
        have HW := Aside0.mk HW
        clear hso2 h1 h2 HS
        by_cases hq : so = en.sort
        · subst hq
          have hS3 : ((id, 0), r2) = R := by have := HS2.out; rw [if_neg (by simp)] at this; exact this
          have HS3 := Aside0.mk hS3
          clear hS3 HS2
          go_upto_region 8 with (fail)
          refine wp_plan [(0, 0), (0, 1), (0, 2), (0, 3), (0, 4), (0, 6), (1, 7), (2, 5), (0, 8), (0, 9)] (fun w' => Cells w' w.heap.size 129 [.string en.name, .bool en.defined, .slice pa en.params.length pc, .int .i64 en.sort, .string en.body.word, .bool en.body.list, .slice ba en.body.kids.length bc]) (by kernel_rfl) (by kernel_rfl) (fun _ _ d _ _ h => by cases d <;> exact h) HX5.out.drew ?_
          simp only [planOps, List.filterMap_cons, List.filterMap_nil, List.getElem?_toArray, List.getElem?_cons_zero, List.getElem?_cons_succ, Option.map_some]
          repeat (first
            | (refine' plan_pu _ (by rfl) (fun w' => ?_) ?_; rotate_left 1; (focus (go_simp; try (with_reducible rfl))); (try simp only [wrapi_0, wrapi_1, wrapi_2, wrapi_3, wrapi_4]); simp only [Act.put, List.setIfInBounds_toArray, List.set_cons_zero, List.set_cons_succ])
            | (refine' plan_off (by rfl) ?_; (try simp only [wrapi_0, wrapi_1, wrapi_2, wrapi_3, wrapi_4]); simp only [Act.put, List.setIfInBounds_toArray, List.set_cons_zero, List.set_cons_succ])
            | (refine' plan_offL (by rfl) ?_; (try simp only [wrapi_0, wrapi_1, wrapi_2, wrapi_3, wrapi_4]); simp only [Act.put, List.setIfInBounds_toArray, List.set_cons_zero, List.set_cons_succ])
            | (refine' plan_offE (by rfl) (by first | assumption | exact (by assumption)) ?_; (try simp only [wrapi_0, wrapi_1, wrapi_2, wrapi_3, wrapi_4]); simp only [Act.put, List.setIfInBounds_toArray, List.set_cons_zero, List.set_cons_succ])
            | (refine' plan_ld _ (by rfl) (fun w' hSw => ?_) ?_; rotate_left 1; (focus ((try dsimp only at hSw); have c3 := hSw.cell 3 _ rfl; go_simp; try (with_reducible rfl))); (try simp only [wrapi_0, wrapi_1, wrapi_2, wrapi_3, wrapi_4]); simp only [Act.put, List.setIfInBounds_toArray, List.set_cons_zero, List.set_cons_succ]))
          refine plan_ef (fun K hK => ?_)
          go_simp
          refine (HW.out).mono ?_
          rintro e w6 ⟨rfl, hB6⟩
          have HB6 := Aside0.mk (((Below.refl _ w5).drew).trans (hB6.mono (Nat.le_refl _)))
          have HX6 := Aside0.mk (HX5.out.drew.below hB6)
          clear hB6
          refine hK.out _ _ (HX6.out) (fun _ => ?_)
          clear hK K
          try (try simp only [wrapi_0, wrapi_1, wrapi_2, wrapi_3, wrapi_4]); simp only [Act.put, List.setIfInBounds_toArray, List.set_cons_zero, List.set_cons_succ]
          repeat (first
            | (refine' plan_pu _ (by rfl) (fun w' => ?_) ?_; rotate_left 1; (focus (go_simp; try (with_reducible rfl))); (try simp only [wrapi_0, wrapi_1, wrapi_2, wrapi_3, wrapi_4]); simp only [Act.put, List.setIfInBounds_toArray, List.set_cons_zero, List.set_cons_succ])
            | (refine' plan_off (by rfl) ?_; (try simp only [wrapi_0, wrapi_1, wrapi_2, wrapi_3, wrapi_4]); simp only [Act.put, List.setIfInBounds_toArray, List.set_cons_zero, List.set_cons_succ])
            | (refine' plan_offL (by rfl) ?_; (try simp only [wrapi_0, wrapi_1, wrapi_2, wrapi_3, wrapi_4]); simp only [Act.put, List.setIfInBounds_toArray, List.set_cons_zero, List.set_cons_succ])
            | (refine' plan_offE (by rfl) (by first | assumption | exact (by assumption)) ?_; (try simp only [wrapi_0, wrapi_1, wrapi_2, wrapi_3, wrapi_4]); simp only [Act.put, List.setIfInBounds_toArray, List.set_cons_zero, List.set_cons_succ])
            | (refine' plan_ld _ (by rfl) (fun w' hSw => ?_) ?_; rotate_left 1; (focus ((try dsimp only at hSw); have c3 := hSw.cell 3 _ rfl; go_simp; try (with_reducible rfl))); (try simp only [wrapi_0, wrapi_1, wrapi_2, wrapi_3, wrapi_4]); simp only [Act.put, List.setIfInBounds_toArray, List.set_cons_zero, List.set_cons_succ]))
          refine plan_nil ?_
          go_wp2_with fail
          go_returns
          rw [← HS3.out]
          exact ⟨rfl, G1.out.below HB6.out, G2.out.step HB6.out, G3.out.trans (HB6.out.mono (Nat.le_trans hB G2.out.size))⟩
        · have hS3 : failF 53 r2 = R := by have := HS2.out; rw [if_pos hq] at this; exact this
          have HS3 := Aside0.mk hS3
          clear hS3 HS2
          go_upto_region 8 with (fail)
          refine wp_plan [(0, 0), (0, 1), (0, 2), (0, 3), (0, 4), (0, 6), (1, 7), (2, 5), (0, 8), (0, 9)] (fun w' => Cells w' w.heap.size 129 [.string en.name, .bool en.defined, .slice pa en.params.length pc, .int .i64 en.sort, .string en.body.word, .bool en.body.list, .slice ba en.body.kids.length bc]) (by kernel_rfl) (by kernel_rfl) (fun _ _ d _ _ h => by cases d <;> exact h) HX5.out.drew ?_
          simp only [planOps, List.filterMap_cons, List.filterMap_nil, List.getElem?_toArray, List.getElem?_cons_zero, List.getElem?_cons_succ, Option.map_some]
          repeat (first
            | (refine' plan_pu _ (by rfl) (fun w' => ?_) ?_; rotate_left 1; (focus (go_simp; try (with_reducible rfl))); (try simp only [wrapi_0, wrapi_1, wrapi_2, wrapi_3, wrapi_4]); simp only [Act.put, List.setIfInBounds_toArray, List.set_cons_zero, List.set_cons_succ])
            | (refine' plan_off (by rfl) ?_; (try simp only [wrapi_0, wrapi_1, wrapi_2, wrapi_3, wrapi_4]); simp only [Act.put, List.setIfInBounds_toArray, List.set_cons_zero, List.set_cons_succ])
            | (refine' plan_offL (by rfl) ?_; (try simp only [wrapi_0, wrapi_1, wrapi_2, wrapi_3, wrapi_4]); simp only [Act.put, List.setIfInBounds_toArray, List.set_cons_zero, List.set_cons_succ])
            | (refine' plan_offE (by rfl) (by first | assumption | exact (by assumption)) ?_; (try simp only [wrapi_0, wrapi_1, wrapi_2, wrapi_3, wrapi_4]); simp only [Act.put, List.setIfInBounds_toArray, List.set_cons_zero, List.set_cons_succ])
            | (refine' plan_ld _ (by rfl) (fun w' hSw => ?_) ?_; rotate_left 1; (focus ((try dsimp only at hSw); have c3 := hSw.cell 3 _ rfl; go_simp; try (with_reducible rfl))); (try simp only [wrapi_0, wrapi_1, wrapi_2, wrapi_3, wrapi_4]); simp only [Act.put, List.setIfInBounds_toArray, List.set_cons_zero, List.set_cons_succ]))
          refine plan_ef (fun K hK => ?_)
          go_simp
          refine (HW.out).mono ?_
          rintro e w6 ⟨rfl, hB6⟩
          have HB6 := Aside0.mk (((Below.refl _ w5).drew).trans (hB6.mono (Nat.le_refl _)))
          have HX6 := Aside0.mk (HX5.out.drew.below hB6)
          clear hB6
          refine hK.out _ _ (HX6.out) (fun _ => ?_)
          clear hK K
          try (try simp only [wrapi_0, wrapi_1, wrapi_2, wrapi_3, wrapi_4]); simp only [Act.put, List.setIfInBounds_toArray, List.set_cons_zero, List.set_cons_succ]
          repeat (first
            | (refine' plan_pu _ (by rfl) (fun w' => ?_) ?_; rotate_left 1; (focus (go_simp; try (with_reducible rfl))); (try simp only [wrapi_0, wrapi_1, wrapi_2, wrapi_3, wrapi_4]); simp only [Act.put, List.setIfInBounds_toArray, List.set_cons_zero, List.set_cons_succ])
            | (refine' plan_off (by rfl) ?_; (try simp only [wrapi_0, wrapi_1, wrapi_2, wrapi_3, wrapi_4]); simp only [Act.put, List.setIfInBounds_toArray, List.set_cons_zero, List.set_cons_succ])
            | (refine' plan_offL (by rfl) ?_; (try simp only [wrapi_0, wrapi_1, wrapi_2, wrapi_3, wrapi_4]); simp only [Act.put, List.setIfInBounds_toArray, List.set_cons_zero, List.set_cons_succ])
            | (refine' plan_offE (by rfl) (by first | assumption | exact (by assumption)) ?_; (try simp only [wrapi_0, wrapi_1, wrapi_2, wrapi_3, wrapi_4]); simp only [Act.put, List.setIfInBounds_toArray, List.set_cons_zero, List.set_cons_succ])
            | (refine' plan_ld _ (by rfl) (fun w' hSw => ?_) ?_; rotate_left 1; (focus ((try dsimp only at hSw); have c3 := hSw.cell 3 _ rfl; go_simp; try (with_reducible rfl))); (try simp only [wrapi_0, wrapi_1, wrapi_2, wrapi_3, wrapi_4]); simp only [Act.put, List.setIfInBounds_toArray, List.set_cons_zero, List.set_cons_succ]))
          refine plan_nil ?_
          go_wp2_with fail
          go_returns
          rw [← HS3.out]
          exact ⟨rfl, G1.out.below HB6.out, G2.out.step HB6.out, G3.out.trans (HB6.out.mono (Nat.le_trans hB G2.out.size))⟩
      · have hS3 : failF er r2 = R := by
          have := HS.out
          unfold thenF at this
          rw [if_pos he] at this
          exact this
        have HS3 := Aside0.mk hS3
        have he2 : (er == 0) = false := by simpa using he
        clear hS3 HS
        go_upto_region 8 with (fail)
        refine wp_plan [(0, 0), (0, 1), (0, 2), (0, 3), (0, 4), (0, 6), (1, 7), (2, 5), (0, 8), (0, 9)] (fun w' => Cells w' w.heap.size 129 [.string en.name, .bool en.defined, .slice pa en.params.length pc, .int .i64 en.sort, .string en.body.word, .bool en.body.list, .slice ba en.body.kids.length bc]) (by kernel_rfl) (by kernel_rfl) (fun _ _ d _ _ h => by cases d <;> exact h) HX5.out.drew ?_
        simp only [planOps, List.filterMap_cons, List.filterMap_nil, List.getElem?_toArray, List.getElem?_cons_zero, List.getElem?_cons_succ, Option.map_some]
        repeat (first
          | (refine' plan_pu _ (by rfl) (fun w' => ?_) ?_; rotate_left 1; (focus (go_simp; try (with_reducible rfl))); (try simp only [wrapi_0, wrapi_1, wrapi_2, wrapi_3, wrapi_4]); simp only [Act.put, List.setIfInBounds_toArray, List.set_cons_zero, List.set_cons_succ])
          | (refine' plan_off (by rfl) ?_; (try simp only [wrapi_0, wrapi_1, wrapi_2, wrapi_3, wrapi_4]); simp only [Act.put, List.setIfInBounds_toArray, List.set_cons_zero, List.set_cons_succ])
          | (refine' plan_offL (by rfl) ?_; (try simp only [wrapi_0, wrapi_1, wrapi_2, wrapi_3, wrapi_4]); simp only [Act.put, List.setIfInBounds_toArray, List.set_cons_zero, List.set_cons_succ])
          | (refine' plan_offE (by rfl) (by first | assumption | exact HX5.out.drew) ?_; (try simp only [wrapi_0, wrapi_1, wrapi_2, wrapi_3, wrapi_4]); simp only [Act.put, List.setIfInBounds_toArray, List.set_cons_zero, List.set_cons_succ])
          | (refine' plan_ld _ (by rfl) (fun w' hSw => ?_) ?_; rotate_left 1; (focus ((try dsimp only at hSw); have c3 := hSw.cell 3 _ rfl; go_simp; try (with_reducible rfl))); (try simp only [wrapi_0, wrapi_1, wrapi_2, wrapi_3, wrapi_4]); simp only [Act.put, List.setIfInBounds_toArray, List.set_cons_zero, List.set_cons_succ]))
        refine plan_nil ?_
        go_wp2_with fail
        go_returns
        rw [← HS3.out]
        exact ⟨rfl, G1.out.below ((Below.refl _ w5).drew), G2.out.drew, G3.out.drew⟩
end
end Go.Proofs.YthhnhbpmpdminaaGreatDoor
