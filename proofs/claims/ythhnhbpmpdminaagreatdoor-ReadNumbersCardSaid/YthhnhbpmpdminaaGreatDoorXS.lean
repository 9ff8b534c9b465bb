/-
Several texts as one: Rus Rop Ror.
-/
import Derived.Test.YthhnhbpmpdminaaGreatDoorXQ
import Derived.Test.YthhnhbpmpdminaaGreatDoorXR
/-
read.worker: use, of term. Conditions: the reader in memory.
-/
namespace Go.Proofs.YthhnhbpmpdminaaGreatDoor
set_option maxRecDepth 4096
set_option maxHeartbeats 8000000
set_option linter.unusedSimpArgs false
set_option linter.unusedVariables false
set_option linter.unnecessarySimpa false
open Go.RowKit Go.Proofs.YthhnhbpmpdminaaGreatDoorW.PrintWords Go.Maps
theorem IB.idv {z : Zr} {w : World} {E : List Ent} {vl : Value} {cs : List Value} {defs : Int} {r : Rd} {B0 : Nat} {l : List Nat} {v : Value} (h : RI z w E vl cs defs r) (hi : IB B0 w l v) : IdV z w l v := by
  by_cases hl : l = []
  · subst hl
    rcases hi.own.2 with ⟨e, _⟩ | ⟨g, cap, cur, e, _⟩
    · exact ⟨none, 0, e, fun q => absurd rfl q⟩
    · exact ⟨_, cap, e, fun q => absurd rfl q⟩
  · obtain ⟨b, c, e, h1, _, _⟩ := hi.idok h hl
    exact ⟨_, c, e, fun _ => ⟨b, rfl, h1⟩⟩
theorem IdV.next {z : Zr} {w w' : World} {ids : List Nat} {v : Value} (m : KR z w w') (h : IdV z w ids v) : IdV z w' ids v := by
  obtain ⟨A, c, e, h1⟩ := h
  exact ⟨A, c, e, fun q => by obtain ⟨b, e1, e2⟩ := h1 q; exact ⟨b, e1, e2.next m⟩⟩
section
variable (z : Zr) (w : World) (E : List Ent) (vl : Value) (cs : List Value) (defs : Int) (r : Rd)
/-- What all tells: the ids are there. -/
theorem all_ids {E : List Ent} {rec : Tm} (hr : TmOk E rec rec) {l : List Sx} {b : Bnd} {lim : Nat} {r : Rd} (hbo : BndOk b r.G) (hd : Dec E r.G) (hn : r.n ≤ 65536) : Ext r.G (allF rec l b lim r).2.G ∧ ((allF rec l b lim r).1.2 = 0 → (allF rec l b lim r).2.n ≤ 65536 ∧ (allF rec l b lim r).1.1.length = l.length ∧ ∀ id ∈ (allF rec l b lim r).1.1, 1 ≤ id ∧ id ≤ (allF rec l b lim r).2.G.l.length) := by
  obtain ⟨h1, h2, h3⟩ := agn_all hr l b lim lim r.G (Nat.le_refl _) hbo hd r (.refl _) hn
  exact ⟨h1, fun q => ⟨(h3 q).1, seq_len _ _ _ q, (h3 q).2.1⟩⟩
def misV (G : Gr) (p : Nat × (ByteArray × Int)) : Bool := sortAt G.l p.1 != p.2.2
theorem use_any (rec : Tm) (d : Nat) (hd : d ≤ 900) (ht : TermC z E vl cs defs rec (d + 1)) (hr : TmOk E rec rec) (hmo : ∀ x b lim r, (rec x b lim r).1.2 = 0 → r.n + 1 ≤ (rec x b lim r).2.n)
    (s : ByteArray) (hs : s.size ≤ maxLen) (l : List Sx) (A : Option Addr) (c : Nat) (b : Bnd) (p : Option Addr) (lim : Nat) (h : RI z w E vl cs defs r) (hB : z.B ≤ w.heap.size) (hl : RL w (NR z w) l A 0) (hlc : l.length ≤ c) (hc : c ≤ 9223372036854775807) (hb : BL z w b p) (hbo : BndOk b r.G) (hlim : lim ≤ E.length) (hn : r.n ≤ 65536) :
    Calls Tryz.prog 153 #[.pointer (some ⟨z.wb, 0, none⟩), .string s, .slice A l.length c, plV p lim d] w fun e w' => RPost z w E vl cs defs (useF E rec s l b lim r) e w' := by
  obtain ⟨R, hR⟩ : ∃ R, useF E rec s l b lim r = R := ⟨_, rfl⟩
  rw [hR]
  unfold useF at hR
  unfold plV
  have hb0 := (Below.refl _ w).alloc (Nat.le_refl _) (.cells #[.pointer p, .int .i64 (lim : Int), .int .i64 (d : Int)] 139)
  have hc0 := Cells.new w 139 [.pointer p, .int .i64 (lim : Int), .int .i64 (d : Int)]
  have hs9 : s.size ≤ 9223372036854775807 := by unfold maxLen at hs; omega
  go_enter Tryz.func153, Tryz.ntmps153
  go_upto_region 1 with (fail)
  obtain ⟨w0, hw0⟩ : ∃ w0, w.alloc (.cells #[.pointer p, .int .i64 (lim : Int), .int .i64 (d : Int)] 139) = w0 := ⟨_, rfl⟩
  have hc0 : Cells w0 w.heap.size 139 [.pointer p, .int .i64 (lim : Int), .int .i64 (d : Int)] := by rw [← hw0]; exact hc0
  rw [hw0] at hb0 ⊢
  clear hw0
  have HH := Aside0.mk h
  have HT := Aside0.mk ht
  have HRR := Aside0.mk hr
  have HMO := Aside0.mk hmo
  have HBL := Aside0.mk hb
  have HRL := Aside0.mk hl
  have HBO := Aside0.mk hbo
  have HC0 := Aside0.mk hc0
  have HB0 := Aside0.mk hb0
  have q0 := hc0.cell 0 _ rfl
  have q1 := hc0.cell 1 _ rfl
  have q2 := hc0.cell 2 _ rfl
  have hsn := seen_any z w0 E vl cs defs r s hs p lim d (by have := h.sc.len; omega) (h.below hb0)
  have HSN := Aside0.mk hsn
  clear h ht hr hmo hb hl hbo hc0 hb0 hsn
  go_wp2_with fail
  refine HSN.out.mono ?_
  rintro e w4 ⟨hB4, hsv⟩
  have HB4 := Aside0.mk (HB0.out.trans (hB4.mono HB0.out.size))
  have HC4 := Aside0.mk (HC0.out.below hB4)
  have H34 := Aside0.mk hB4
  clear q0 q1 q2 hB4
  cases hx : seenV E lim s with
  | none =>
    rw [hx] at hsv hR
    dsimp only at hsv hR
    subst hsv
    have HR := Aside0.mk hR
    clear hR hx
    unfold ent0
    go_wp2_with fail
    go_returns
    rw [← HR.out]
    exact RPost.new HH.out (HB4.out.alloc HB4.out.size _) hB 0 51
  | some ie =>
    obtain ⟨i, en⟩ := ie
    rw [hx] at hsv hR
    dsimp only at hsv hR
    obtain ⟨ec, hE, rfl⟩ := hsv
    have HX := Aside0.mk hx
    clear hx
    have hE2 := hE.next (KR.of_below H34.out)
    obtain ⟨pa, pc, ba, bc, rfl, hp1, hp2, hpar, _⟩ := hE
    have HPAR := Aside0.mk (hpar.next (KR.of_below H34.out))
    clear hpar
    obtain ⟨df, hdf⟩ : ∃ b, en.defined = b := ⟨_, rfl⟩
    obtain ⟨n, hnn⟩ : ∃ n, en.params.length = n := ⟨_, rfl⟩
    rw [hdf, hnn] at hR
    rw [hdf, hnn] at hE2 ⊢
    rw [hnn] at hp1
    have HN := Aside0.mk hnn
    have hb5 := HB4.out.alloc HB4.out.size (.cells #[.string en.name, .bool df, .slice pa n pc, .int .i64 en.sort, .string en.body.word, .bool en.body.list, .slice ba en.body.kids.length bc] 129)
    have HB5 := Aside0.mk hb5
    clear hdf hnn hb5
    cases df with
    | false =>
      rw [if_pos rfl] at hR
      have HR := Aside0.mk hR
      clear hR hE2
      go_wp2_with fail
      go_returns
      rw [← HR.out]
      exact RPost.new HH.out HB5.out hB 0 51
    | true =>
      rw [if_neg (by simp)] at hR
      by_cases hln : l.length = n
      · rw [if_neg (by simpa using hln)] at hR
        have hb45 := (Below.refl _ w4).alloc (Nat.le_refl _) (.cells #[.string en.name, .bool true, .slice pa n pc, .int .i64 en.sort, .string en.body.word, .bool en.body.list, .slice ba en.body.kids.length bc] 129)
        have hcE := Cells.new w4 129 [.string en.name, .bool true, .slice pa n pc, .int .i64 en.sort, .string en.body.word, .bool en.body.list, .slice ba en.body.kids.length bc]
        have HE5 := Aside0.mk (hE2.next (KR.of_below ((Below.refl _ w4).alloc (Nat.le_refl _) (.cells #[.string en.name, .bool true, .slice pa n pc, .int .i64 en.sort, .string en.body.word, .bool en.body.list, .slice ba en.body.kids.length bc] 129))))
        have HC5 := Aside0.mk (HC4.out.alloc (.cells #[.string en.name, .bool true, .slice pa n pc, .int .i64 en.sort, .string en.body.word, .bool en.body.list, .slice ba en.body.kids.length bc] 129))
        have HLN := Aside0.mk hln
        have HR0 := Aside0.mk hR
        clear hE2 hR
        rw [hln]
        clear hln
        go_upto_region 6 with (fail)
        obtain ⟨w5, hw5⟩ : ∃ w5, w4.alloc (.cells #[.string en.name, .bool true, .slice pa n pc, .int .i64 en.sort, .string en.body.word, .bool en.body.list, .slice ba en.body.kids.length bc] 129) = w5 := ⟨_, rfl⟩
        have hcE : Cells w5 w4.heap.size 129 [.string en.name, .bool true, .slice pa n pc, .int .i64 en.sort, .string en.body.word, .bool en.body.list, .slice ba en.body.kids.length bc] := by rw [← hw5]; exact hcE
        rw [hw5] at HE5 HC5 HB5 hb45 ⊢
        have HPAR5 := Aside0.mk (HPAR.out.next (KR.of_below hb45))
        clear hb45
        clear hw5
        have HCE := Aside0.mk hcE
        have H5 := Aside0.mk (HH.out.below HB5.out)
        have HNE := Aside0.mk (HH.out.fresh hcE (by decide) HB4.out.size)
        have HNP := Aside0.mk (HH.out.fresh HC5.out (by decide) (Nat.le_refl _))
        have hB5 : z.B ≤ w5.heap.size := Nat.le_trans hB HB5.out.size
        have hal := all_any z w5 E vl cs defs r rec d hd HT.out HRR.out HMO.out l A c b p lim H5.out hB5 (NR.trees (KR.of_below HB5.out) HRL.out) (BL.next (KR.of_below HB5.out) HBL.out) HBO.out hlim hn (by omega)
        have hai := all_ids HRR.out (l := l) (lim := lim) HBO.out H5.out.dec hn
        have hR := HR0.out
        obtain ⟨⟨⟨ids, er⟩, r2⟩, hrr⟩ : ∃ rr, allF rec l b lim r = rr := ⟨_, rfl⟩
        rw [hrr] at hal hai hR
        unfold plV at hal
        rw [HLN.out] at hal
        dsimp only at hal hai
        have HAL := Aside0.mk hal
        have HAI := Aside0.mk hai
        have HR1 := Aside0.mk hR
        have q0 := HC5.out.cell 0 _ rfl
        have q1 := HC5.out.cell 1 _ rfl
        have q2 := HC5.out.cell 2 _ rfl
        clear hrr hal hai hR hcE
        go_wp2_with fail
        refine HAL.out.mono ?_
        rintro e w6 ⟨v, rfl, g1, g2, g3, g4⟩
        have G1 := Aside0.mk g1
        have G2 := Aside0.mk ((KR.of_below HB5.out).trans g2)
        have G3 := Aside0.mk ((HB5.out.mono hB).trans g3)
        have HE6 := Aside0.mk (HE5.out.next g2)
        have HPA := Aside0.mk (HPAR5.out.next g2)
        have HCE6 := Aside0.mk (NR.cells HCE.out HNE.out g2)
        have HC6 := Aside0.mk (NR.cells HC5.out HNP.out g2)
        have HIV : Aside0 (er = 0 → IdV z w6 ids v) := ⟨fun q => (g4 q).idv g1⟩
        clear g1 g2 g3 g4 q0 q1 q2
        by_cases he : er = 0
        · subst he
          have hR3 : (if ((ids.zip en.params).any fun p => sortAt r2.G.l p.1 != p.2.2) = true then failF 53 r2 else bodyF rec en i ids r2) = R := by
            have := HR1.out
            unfold thenL at this
            rw [if_neg (by simp)] at this
            exact this
          have HR3 : Aside0 ((if ((ids.zip en.params).drop 0).any (misV r2.G) = true then failF 53 r2 else bodyF rec en i ids r2) = R) := ⟨hR3⟩
          obtain ⟨hn2, hidl, hids⟩ := HAI.out.2 rfl
          obtain ⟨IA, ic, rfl, hIA⟩ := HIV.out rfl
          have hidn : ids.length = n := hidl.trans HLN.out
          have HIDN := Aside0.mk hidn
          have HIDS := Aside0.mk hids
          have HIA := Aside0.mk hIA
          have HHN := Aside0.mk hn2
          rw [hidn]
          have x2 := HCE6.out.cell 2 _ rfl
          clear hR3 hids hidl hidn hIA HIV HAI hn2
          go_wp2_with fail
          go_loopw [53] (fun v53 wr => ∃ (j : Nat), j ≤ n ∧ v53 = .int .i64 (j : Int) ∧ Aside0 ((if ((ids.zip en.params).drop j).any (misV r2.G) = true then failF 53 r2 else bodyF rec en i ids r2) = R) ∧ Aside0 (Below w6.heap.size w6 wr)) (fun v53 _ => n - (intOf v53).toNat)
          case atStart => exact ⟨0, by omega, rfl, HR3, ⟨Below.refl _ _⟩⟩
          case round =>
            obtain ⟨j, hj, rfl, HRJ, HB'⟩ := hrel
            by_cases hlt : j < n
            · have hlt' : (j : Int) < (n : Int) := by omega
              obtain ⟨pm, hpm⟩ : ∃ pm, en.params[j]? = some pm := ⟨_, List.getElem?_eq_getElem (by rw [HN.out]; exact hlt)⟩
              obtain ⟨id, hid⟩ : ∃ id, ids[j]? = some id := ⟨_, List.getElem?_eq_getElem (by rw [HIDN.out]; exact hlt)⟩
              obtain ⟨hps, hpi, ad, rfl, had, y0, y1⟩ := (HPA.out.next (KR.of_below HB'.out)) j pm hpm
              obtain ⟨bi, rfl, hio⟩ := HIA.out (fun q => by rw [q] at hid; cases hid)
              have hcell := ((hio.next (KR.of_below HB'.out)).2 j id hid).1
              obtain ⟨hi1, hi2⟩ := HIDS.out id (List.mem_of_getElem? hid)
              have hzz : (ids.zip en.params)[j]? = some (id, pm) := by
                rw [List.getElem?_zip_eq_some]; exact ⟨hid, hpm⟩
              obtain ⟨hz1, hz2⟩ := List.getElem?_eq_some_iff.1 hzz
              have hS := HRJ.out
              rw [List.drop_eq_getElem_cons hz1, hz2, List.any_cons] at hS
              obtain ⟨so, hso2⟩ : ∃ s, sortAt r2.G.l (id : Int) = s := ⟨_, rfl⟩
              have hm : misV r2.G (id, pm) = (so != pm.2) := by unfold misV; rw [hso2]
              rw [hm] at hS
              have HS := Aside0.mk hS
              have hc1 := Cells.new wr 77 [.string pm.1, .int .i64 pm.2]
              have hb1 := (Below.refl _ wr).alloc (Nat.le_refl _) (.cells #[.string pm.1, .int .i64 pm.2] 77)
              have hcell1 : (wr.alloc (.cells #[.string pm.1, .int .i64 pm.2] 77)).cell? ⟨bi, j, none⟩ = some (.int .i64 (id : Int)) := NR.cell (hio.1.next (KR.of_below HB'.out)) (KR.of_below hb1) hcell
              clear hpm hid hio had hzz hz1 hz2 hS hm hcell
              go_upto_region 12 with (fail)
              obtain ⟨w7, hw7⟩ : ∃ w7, wr.alloc (.cells #[.string pm.1, .int .i64 pm.2] 77) = w7 := ⟨_, rfl⟩
              have hc1 : Cells w7 wr.heap.size 77 [.string pm.1, .int .i64 pm.2] := by rw [← hw7]; exact hc1
              rw [hw7] at hb1 hcell1 ⊢
              have HB7 := Aside0.mk hb1
              have HC7 := Aside0.mk hc1
              have HD7 := Aside0.mk hcell1
              have hws := wsort_any z w7.drew E vl cs defs r2 id hi1 hi2 (G1.out.below (HB'.out.trans ((hb1.trans ((Below.refl _ w7).drew)).mono HB'.out.size)))
              rw [hso2] at hws
              have HWS := Aside0.mk hws
              clear hw7 hc1 hb1 hcell1 hws hso2 hi1 hi2 y0 y1
              by_cases hq : so = pm.2
              · subst hq
                have HS2 : Aside0 ((if ((ids.zip en.params).drop (j + 1)).any (misV r2.G) = true then failF 53 r2 else bodyF rec en i ids r2) = R) := ⟨by
                  have := HS.out
                  rw [show (pm.2 != pm.2) = false by simp, Bool.false_or] at this
                  exact this⟩
                clear HS
                refine wp_plan [(0, 0), (0, 1), (0, 2), (0, 3), (0, 6), (1, 4), (1, 7), (2, 5), (0, 8)] (fun w' => Cells w' wr.heap.size 77 [.string pm.1, .int .i64 pm.2] ∧ w'.cell? ⟨bi, j, none⟩ = some (.int .i64 (id : Int))) (by kernel_rfl) (by kernel_rfl) (fun _ _ d _ _ h => by cases d <;> exact h) ⟨HC7.out.drew, HD7.out⟩ ?_
                simp only [planOps, List.filterMap_cons, List.filterMap_nil, List.getElem?_toArray, List.getElem?_cons_zero, List.getElem?_cons_succ, Option.map_some]
                repeat (first
                  | (refine' plan_pu _ (by rfl) (fun w' => ?_) ?_; rotate_left 1; (focus (go_simp; try (with_reducible rfl))); (try simp only [wrapi_0, wrapi_1, wrapi_2, wrapi_3, wrapi_4]); simp only [Act.put, List.setIfInBounds_toArray, List.set_cons_zero, List.set_cons_succ])
                  | (refine' plan_off (by rfl) ?_; (try simp only [wrapi_0, wrapi_1, wrapi_2, wrapi_3, wrapi_4]); simp only [Act.put, List.setIfInBounds_toArray, List.set_cons_zero, List.set_cons_succ])
                  | (refine' plan_offL (by rfl) ?_; (try simp only [wrapi_0, wrapi_1, wrapi_2, wrapi_3, wrapi_4]); simp only [Act.put, List.setIfInBounds_toArray, List.set_cons_zero, List.set_cons_succ])
                  | (refine' plan_offE (by rfl) (by first | assumption | exact (by assumption)) ?_; (try simp only [wrapi_0, wrapi_1, wrapi_2, wrapi_3, wrapi_4]); simp only [Act.put, List.setIfInBounds_toArray, List.set_cons_zero, List.set_cons_succ])
                  | (refine' plan_ld _ (by rfl) (fun w' hSw => ?_) ?_; rotate_left 1; (focus ((try dsimp only at hSw); have c0 := hSw.1.cell 1 _ rfl; have c1 := hSw.2; go_simp; try (with_reducible rfl))); (try simp only [wrapi_0, wrapi_1, wrapi_2, wrapi_3, wrapi_4]); simp only [Act.put, List.setIfInBounds_toArray, List.set_cons_zero, List.set_cons_succ]))
                refine plan_ef (fun K hK => ?_)
                go_simp
                refine (HWS.out).mono ?_
                rintro e w8 ⟨rfl, hB8⟩
                have HB8 := Aside0.mk (HB7.out.trans ((((Below.refl _ w7).drew).trans (hB8.mono (Nat.le_refl _))).mono HB7.out.size))
                have HC8 := Aside0.mk (HC7.out.drew.below hB8)
                have HD8 := Aside0.mk (World.cell?_of_block (w := w7.drew) (hB8.block _ (World.block_lt_of_cell? w7 _ HD7.out)) |>.trans HD7.out)
                clear hB8
                refine hK.out _ _ (⟨HC8.out, HD8.out⟩) (fun _ => ?_)
                clear hK K
                try (try simp only [wrapi_0, wrapi_1, wrapi_2, wrapi_3, wrapi_4]); simp only [Act.put, List.setIfInBounds_toArray, List.set_cons_zero, List.set_cons_succ]
                repeat (first
                  | (refine' plan_pu _ (by rfl) (fun w' => ?_) ?_; rotate_left 1; (focus (go_simp; try (with_reducible rfl))); (try simp only [wrapi_0, wrapi_1, wrapi_2, wrapi_3, wrapi_4]); simp only [Act.put, List.setIfInBounds_toArray, List.set_cons_zero, List.set_cons_succ])
                  | (refine' plan_off (by rfl) ?_; (try simp only [wrapi_0, wrapi_1, wrapi_2, wrapi_3, wrapi_4]); simp only [Act.put, List.setIfInBounds_toArray, List.set_cons_zero, List.set_cons_succ])
                  | (refine' plan_offL (by rfl) ?_; (try simp only [wrapi_0, wrapi_1, wrapi_2, wrapi_3, wrapi_4]); simp only [Act.put, List.setIfInBounds_toArray, List.set_cons_zero, List.set_cons_succ])
                  | (refine' plan_offE (by rfl) (by first | assumption | exact (by assumption)) ?_; (try simp only [wrapi_0, wrapi_1, wrapi_2, wrapi_3, wrapi_4]); simp only [Act.put, List.setIfInBounds_toArray, List.set_cons_zero, List.set_cons_succ])
                  | (refine' plan_ld _ (by rfl) (fun w' hSw => ?_) ?_; rotate_left 1; (focus ((try dsimp only at hSw); have c0 := hSw.1.cell 1 _ rfl; have c1 := hSw.2; go_simp; try (with_reducible rfl))); (try simp only [wrapi_0, wrapi_1, wrapi_2, wrapi_3, wrapi_4]); simp only [Act.put, List.setIfInBounds_toArray, List.set_cons_zero, List.set_cons_succ]))
                refine plan_nil ?_
                go_wp2_with fail
                exact ⟨⟨j + 1, by omega, by simp, HS2, ⟨HB'.out.trans (HB8.out.mono HB'.out.size)⟩⟩, by simp only [intOf]; omega⟩
              · have HS2 : Aside0 (failF 53 r2 = R) := ⟨by
                  have := HS.out
                  rw [show (so != pm.2) = true by simpa using hq, Bool.true_or, if_pos rfl] at this
                  exact this⟩
                clear HS
                refine wp_plan [(0, 0), (0, 1), (0, 2), (0, 3), (0, 6), (1, 4), (1, 7), (2, 5), (0, 8)] (fun w' => Cells w' wr.heap.size 77 [.string pm.1, .int .i64 pm.2] ∧ w'.cell? ⟨bi, j, none⟩ = some (.int .i64 (id : Int))) (by kernel_rfl) (by kernel_rfl) (fun _ _ d _ _ h => by cases d <;> exact h) ⟨HC7.out.drew, HD7.out⟩ ?_
                simp only [planOps, List.filterMap_cons, List.filterMap_nil, List.getElem?_toArray, List.getElem?_cons_zero, List.getElem?_cons_succ, Option.map_some]
                repeat (first
                  | (refine' plan_pu _ (by rfl) (fun w' => ?_) ?_; rotate_left 1; (focus (go_simp; try (with_reducible rfl))); (try simp only [wrapi_0, wrapi_1, wrapi_2, wrapi_3, wrapi_4]); simp only [Act.put, List.setIfInBounds_toArray, List.set_cons_zero, List.set_cons_succ])
                  | (refine' plan_off (by rfl) ?_; (try simp only [wrapi_0, wrapi_1, wrapi_2, wrapi_3, wrapi_4]); simp only [Act.put, List.setIfInBounds_toArray, List.set_cons_zero, List.set_cons_succ])
                  | (refine' plan_offL (by rfl) ?_; (try simp only [wrapi_0, wrapi_1, wrapi_2, wrapi_3, wrapi_4]); simp only [Act.put, List.setIfInBounds_toArray, List.set_cons_zero, List.set_cons_succ])
                  | (refine' plan_offE (by rfl) (by first | assumption | exact (by assumption)) ?_; (try simp only [wrapi_0, wrapi_1, wrapi_2, wrapi_3, wrapi_4]); simp only [Act.put, List.setIfInBounds_toArray, List.set_cons_zero, List.set_cons_succ])
                  | (refine' plan_ld _ (by rfl) (fun w' hSw => ?_) ?_; rotate_left 1; (focus ((try dsimp only at hSw); have c0 := hSw.1.cell 1 _ rfl; have c1 := hSw.2; go_simp; try (with_reducible rfl))); (try simp only [wrapi_0, wrapi_1, wrapi_2, wrapi_3, wrapi_4]); simp only [Act.put, List.setIfInBounds_toArray, List.set_cons_zero, List.set_cons_succ]))
                refine plan_ef (fun K hK => ?_)
                go_simp
                refine (HWS.out).mono ?_
                rintro e w8 ⟨rfl, hB8⟩
                have HB8 := Aside0.mk (HB7.out.trans ((((Below.refl _ w7).drew).trans (hB8.mono (Nat.le_refl _))).mono HB7.out.size))
                have HC8 := Aside0.mk (HC7.out.drew.below hB8)
                have HD8 := Aside0.mk (World.cell?_of_block (w := w7.drew) (hB8.block _ (World.block_lt_of_cell? w7 _ HD7.out)) |>.trans HD7.out)
                clear hB8
                refine hK.out _ _ (⟨HC8.out, HD8.out⟩) (fun _ => ?_)
                clear hK K
                try (try simp only [wrapi_0, wrapi_1, wrapi_2, wrapi_3, wrapi_4]); simp only [Act.put, List.setIfInBounds_toArray, List.set_cons_zero, List.set_cons_succ]
                repeat (first
                  | (refine' plan_pu _ (by rfl) (fun w' => ?_) ?_; rotate_left 1; (focus (go_simp; try (with_reducible rfl))); (try simp only [wrapi_0, wrapi_1, wrapi_2, wrapi_3, wrapi_4]); simp only [Act.put, List.setIfInBounds_toArray, List.set_cons_zero, List.set_cons_succ])
                  | (refine' plan_off (by rfl) ?_; (try simp only [wrapi_0, wrapi_1, wrapi_2, wrapi_3, wrapi_4]); simp only [Act.put, List.setIfInBounds_toArray, List.set_cons_zero, List.set_cons_succ])
                  | (refine' plan_offL (by rfl) ?_; (try simp only [wrapi_0, wrapi_1, wrapi_2, wrapi_3, wrapi_4]); simp only [Act.put, List.setIfInBounds_toArray, List.set_cons_zero, List.set_cons_succ])
                  | (refine' plan_offE (by rfl) (by first | assumption | exact (by assumption)) ?_; (try simp only [wrapi_0, wrapi_1, wrapi_2, wrapi_3, wrapi_4]); simp only [Act.put, List.setIfInBounds_toArray, List.set_cons_zero, List.set_cons_succ])
                  | (refine' plan_ld _ (by rfl) (fun w' hSw => ?_) ?_; rotate_left 1; (focus ((try dsimp only at hSw); have c0 := hSw.1.cell 1 _ rfl; have c1 := hSw.2; go_simp; try (with_reducible rfl))); (try simp only [wrapi_0, wrapi_1, wrapi_2, wrapi_3, wrapi_4]); simp only [Act.put, List.setIfInBounds_toArray, List.set_cons_zero, List.set_cons_succ]))
                refine plan_nil ?_
                go_wp2_with fail
                go_returns
                rw [← HS2.out]
                have hb9 := HB'.out.trans (HB8.out.mono HB'.out.size)
                exact ⟨rfl, G1.out.below hb9, G2.out.step hb9, G3.out.trans (hb9.mono (Nat.le_trans hB G2.out.size))⟩
            · obtain rfl : j = n := by omega
              clear hlt
              have hS := HRJ.out
              rw [List.drop_of_length_le (by simp [HIDN.out, HN.out]), List.any_nil, if_neg (by simp)] at hS
              obtain ⟨hi1, _, hi2, _⟩ := seen_get HX.out
              have hbd := body_any z wr E vl cs defs r2 rec d hd HT.out en _ i ids (.slice IA j ic) p lim (HE6.out.next (KR.of_below HB'.out)) ⟨IA, ic, by rw [HIDN.out], fun q => by obtain ⟨b, e1, e2⟩ := HIA.out q; exact ⟨b, e1, e2.next (KR.of_below HB'.out)⟩⟩ (HIDN.out.trans HN.out.symm) hi1 hi2 (by have := bnd_zip (ss := en.params.map (·.1)) HIDS.out (b := []) (fun p hp => by cases hp); simpa using this) HRR.out (G1.out.below HB'.out) (Nat.le_trans hB (G2.out.step HB'.out).size) HHN.out
              rw [hS] at hbd
              unfold plV at hbd
              have HBD := Aside0.mk hbd
              have hce := HCE6.out.below HB'.out
              have hcp := HC6.out.below HB'.out
              have q0 := hcp.cell 0 _ rfl
              have q1 := hcp.cell 1 _ rfl
              have q2 := hcp.cell 2 _ rfl
              have y0 := hce.cell 0 _ rfl
              have y1 := hce.cell 1 _ rfl
              have y2 := hce.cell 2 _ rfl
              have y3 := hce.cell 3 _ rfl
              have y4 := hce.cell 4 _ rfl
              have y5 := hce.cell 5 _ rfl
              have y6 := hce.cell 6 _ rfl
              clear hS hbd hi1 hi2 hce hcp x2
              go_wp2_with fail
              refine HBD.out.mono ?_
              rintro e w9 ⟨rfl, a1, a2, a3⟩
              have A1 := Aside0.mk a1
              have A2 := Aside0.mk ((G2.out.step HB'.out).trans a2)
              have A3 := Aside0.mk ((G3.out.trans (HB'.out.mono (Nat.le_trans hB G2.out.size))).trans a3)
              clear a1 a2 a3
              go_wp2_with fail
              go_returns
              exact ⟨rfl, A1.out, A2.out, A3.out⟩
        · have hS3 : failF er r2 = R := by
            have := HR1.out
            unfold thenL at this
            rw [if_pos he] at this
            exact this
          have HS3 := Aside0.mk hS3
          have he2 : (er != 0) = true := by simpa using he
          clear hS3
          go_wp2_with fail
          go_returns
          rw [← HS3.out]
          exact ⟨rfl, G1.out, G2.out, G3.out⟩
      · rw [if_pos (by simpa using hln)] at hR
        have HR := Aside0.mk hR
        have hn1 : ¬ ((l.length : Int) = (n : Int)) := by omega
        clear hR hE2 hln
        go_wp2_with fail
        go_returns
        rw [← HR.out]
        exact RPost.new HH.out HB5.out hB 0 54
end
end Go.Proofs.YthhnhbpmpdminaaGreatDoor
/-
read.worker: operator, of term. Conditions: the reader in memory.
-/
namespace Go.Proofs.YthhnhbpmpdminaaGreatDoor
set_option maxRecDepth 4096
set_option maxHeartbeats 8000000
set_option linter.unusedSimpArgs false
set_option linter.unusedVariables false
set_option linter.unnecessarySimpa false
open Go.RowKit Go.Proofs.YthhnhbpmpdminaaGreatDoorW.PrintWords Go.Maps PReadTwice
theorem KR.cells {z : Zr} {w w0 w1 : World} {E : List Ent} {vl : Value} {cs : List Value} {defs : Int} {r : Rd} (h : RI z w E vl cs defs r) (hb : Below w.heap.size w w0) {k t : Nat} {l : List Value} (hc : Cells w0 k t l) (hk : w.heap.size ≤ k) (m : KR z w0 w1) : Cells w1 k t l := by
  obtain ⟨vn, hg⟩ := h.gi
  obtain ⟨D, hD, _⟩ := hg.ids
  obtain ⟨D2, hD2, _⟩ := hg.names
  have a1 := hg.cells.lt
  have a2 := hD.lt
  have a3 := hD2.lt
  have a4 := h.wk.lt
  refine ((m.ny (Nat.lt_of_lt_of_le a1 hb.size)).keep k hc.lt ?_).trans hc
  rintro ((q | q | q | q) | q)
  · omega
  · omega
  · omega
  · obtain ⟨v, q1, q2⟩ := q.same (hb.block _ a1)
    rw [hg.cells.cell 1 _ rfl] at q1
    cases q1
    have := own_lt_size hg.row k q2
    omega
  · omega
theorem many_any (op : Int) (W : World) : Calls Tryz.prog 205 #[.int .i64 op] W fun e W' => e = .returned (.bool (manyV op)) ∧ Below W.heap.size W W' := by
  have hf : read_many.f op = some (manyV op) := by
    unfold read_many.f manyV
    repeat' split
    all_goals first
      | (subst_vars; rfl)
      | (simp [*])
  refine (read_many.calls _ _ W hf).mono ?_
  rintro e w' ⟨rfl, hd⟩
  exact ⟨rfl, hd.below⟩
/-- append(v, x, y) in a plain list of operations. -/
theorem apl2_at {P : Program} {ops : Array Oper} {Q : Exit → Act → World → Prop} {a : Act} {o : Oper} {rest : List Oper} {w0 : World} (W : World) (base : Nat) (s x : Operand) (t e : TypeId) (z : Value) (bytes : Nat) (v : Value) (n : Nat) (xs ys : List Value) (ad : Addr) (c : Nat)
    (hgd : o.guard = none)
    (ho : o.op = .call { callee := .builtin .append, args := #[s, x], argTypes := #[t, t] }) (hnews : ∀ j u, ys[j]? = some u → W.cell? (ad.add j) = some u)
    (ht : P.underlying t = some (.slice e)) (hinfo : (P.info? e).map (fun i => (i.zero, i.size, i.bytes)) = some (some z, 1, bytes)) (hz : z.cells.size = 1) (hb0 : 0 < bytes)
    (hs : a.eval s = v) (hx : a.eval x = .slice (some ad) 2 c) (hys : ys.length = 2) (h1 : ∀ u ∈ ys, u.oneCell' = true)
    (HO : W.ownsRow base e 1 v n xs) (HB : Below base w0 W) (hbase : base ≤ W.heap.size) (hl : (n + 2) * bytes ≤ 140737488355328)
    (h : ∀ v1 w1, w1.ownsRow base e 1 v1 (n + 2) (xs ++ ys) → Below base w0 w1 → W.grownBy w1 v.ownBlock → (v1.ownBlock = v.ownBlock ∨ ∃ b, v1.ownBlock = some b ∧ W.heap.size ≤ b) → wpList P ops Q rest (a.put o.dst v1) w1) :
    wpList P ops Q (o :: rest) a W := by
  obtain ⟨i0, hi, hzz⟩ := Option.map_eq_some_iff.1 hinfo
  simp only [Prod.mk.injEq] at hzz
  obtain ⟨hz0, hz1, hz2⟩ := hzz
  have hlen : n + 2 ≤ 140737488355328 := Nat.le_trans (Nat.le_mul_of_pos_right _ hb0) hl
  refine wpList_append_own_at W hgd s x t ho base e i0 z 1 bytes ht hi hz0 hz1 hz2 hz (by decide) v n xs hs HO ad 2 c ys hx (by rw [hys]) hnews h1 (by simp only [maxLen]; omega) hl hbase ?_
  intro v1 w1 hown hg _ hat
  refine h v1 w1 hown (HB.grown hg hbase (own_base HO)) hg ?_
  rcases hat with hat | hat
  · exact .inl hat
  · exact .inr ⟨_, hat, Nat.le_refl _⟩
end Go.Proofs.YthhnhbpmpdminaaGreatDoor
/-
The reader: a node of one's own, written. Conditions: the reader in memory.
-/
namespace Go.Proofs.YthhnhbpmpdminaaGreatDoor
set_option maxRecDepth 4096
set_option maxHeartbeats 8000000
set_option linter.unusedSimpArgs false
set_option linter.unusedVariables false
set_option linter.unnecessarySimpa false
open Go.RowKit Go.Proofs.YthhnhbpmpdminaaGreatDoorW.PrintWords Go.Maps
section
variable {z : Zr} {w w0 w8 w9 : World} {E : List Ent} {vl : Value} {cs : List Value} {defs : Int} {r r8 : Rd}
theorem RI.far {k : Nat} (h : RI z w E vl cs defs r) (hb : Below w.heap.size w w0) (hk : w.heap.size ≤ k) (hk0 : k < w0.heap.size) (m : KR z w0 w8) : k ≠ z.g ∧ k ≠ z.bi ∧ k ≠ z.bn ∧ k ≠ z.wb ∧ ¬ OwnB z.g w8 k := by
  obtain ⟨vn, hg⟩ := h.gi
  obtain ⟨D, hD, _⟩ := hg.ids
  obtain ⟨D2, hD2, _⟩ := hg.names
  have a1 := hg.cells.lt
  have a2 := hD.lt
  have a3 := hD2.lt
  have a4 := h.wk.lt
  refine ⟨by omega, by omega, by omega, by omega, fun q => ?_⟩
  obtain ⟨v, q1, q2⟩ := ((m.ny (Nat.lt_of_lt_of_le a1 hb.size)).own k hk0 q).same (hb.block _ a1)
  rw [hg.cells.cell 1 _ rfl] at q1
  cases q1
  have := own_lt_size hg.row k q2
  omega
/-- A block of one's own is written. -/
theorem RI.put {k : Nat} (h : RI z w E vl cs defs r) (hb : Below w.heap.size w w0) (hk : w.heap.size ≤ k) (hk0 : k < w0.heap.size) (m : KR z w0 w8) (h8 : RI z w8 E vl cs defs r8) (hm : Mod (fun j => j = k) w8 w9) : RI z w9 E vl cs defs r8 ∧ KR z w w9 := by
  obtain ⟨n1, n2, n3, n4, n5⟩ := h.far hb hk hk0 m
  have hw9 : KR z w w9 := KR.grow ((KR.of_below hb).trans m) ⟨hm.os, hm.tape, hm.output, hm.size, fun j hj => hm.keep j (Nat.lt_of_lt_of_le hj (Nat.le_trans hb.size m.size)) (by omega)⟩
  obtain ⟨vn, hg⟩ := h8.gi
  exact ⟨⟨⟨vn, hg.keep2 hm (fun q => n1 q.symm) (fun q => n2 q.symm) (fun q => n3 q.symm) (fun j hj q => n5 (q ▸ hg.own_gy j hj))⟩, h.sc.next hw9, h8.wk.keep hm (fun q => n4 q.symm), h8.base, h8.dec⟩, hw9⟩
end
theorem ids_pad (ids : List Nat) (j : Nat) (hj : j < ids.length + 2) : (idsN ids ++ [Value.int .i64 0, Value.int .i64 0])[j]? = some (.int .i64 ((ids.getD j 0 : Nat) : Int)) := by
  by_cases h : j < ids.length
  · rw [List.getElem?_append_left (by simpa [idsN] using h)]
    simp [idsN, List.getD, List.getElem?_eq_getElem h]
  · rw [List.getElem?_append_right (by simp [idsN]; omega)]
    have hd : ids.getD j 0 = 0 := by simp [List.getD, List.getElem?_eq_none (Nat.le_of_not_lt h)]
    rw [hd]
    have : j - (idsN ids).length = 0 ∨ j - (idsN ids).length = 1 := by simp [idsN]; omega
    rcases this with e | e <;> rw [e] <;> rfl
end Go.Proofs.YthhnhbpmpdminaaGreatDoor
