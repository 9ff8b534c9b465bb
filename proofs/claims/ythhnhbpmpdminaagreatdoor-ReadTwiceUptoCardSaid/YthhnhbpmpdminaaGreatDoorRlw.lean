/-
The law ReadTwice, walked. Conditions: the steps lie in memory, their lengths are within reach; strconv's variable holds an error. (Written by mk_rlw.py out of rlw_head.txt.)
-/
import Derived.Test.YthhnhbpmpdminaaGreatDoorXY
import Derived.Test.YthhnhbpmpdminaaGreatDoorRli
import Derived.Test.YthhnhbpmpdminaaGreatDoorXYA
namespace Go.Proofs.YthhnhbpmpdminaaGreatDoor
set_option maxRecDepth 4096
set_option maxHeartbeats 8000000
set_option linter.unusedSimpArgs false
set_option linter.unusedVariables false
set_option linter.unnecessarySimpa false
open Go.RowKit Go.Proofs.YthhnhbpmpdminaaGreatDoorW.PrintWords Go.Maps PReadTwice
theorem StpsOk.up {B B' : Nat} {w w' : World} {l : List Stp} {A : Option Addr} (h : StpsOk B w l A) (hm : ∀ k, k < B → w'.heap[k]? = w.heap[k]?) (hB : B ≤ B') : StpsOk B' w' l A := fun i s hi => by
  obtain ⟨ad, cs, h1, h2, h3, pa, pc, xa, xc, h4, k1, k2, k3, k4, k5, k6, k7, k8⟩ := h i s hi
  refine ⟨ad, cs, h1, by omega, fun q u hu => (World.cell?_of_block (w := w) (by rw [add_block]; exact hm _ h2)).trans (h3 q u hu), pa, pc, xa, xc, h4, k1, k2, k3, k4, k5, k6, fun j p hj => ?_, RT_move (fun k hk => hm k hk) (fun k hk => Nat.lt_of_lt_of_le hk hB) _ _ k8⟩
  obtain ⟨e1, e2, ad2, e3, e4, e5, e6⟩ := k7 j p hj
  have hb : w'.heap[(ad2.add (j * 2)).block]? = w.heap[(ad2.add (j * 2)).block]? := by rw [add_block]; exact hm _ e4
  exact ⟨e1, e2, ad2, e3, by omega, (World.cell?_of_block (w := w) hb).trans e5, (World.cell?_of_block (w := w) (a := ⟨(ad2.add (j * 2)).block, (ad2.add (j * 2)).off + 1, none⟩) hb).trans e6⟩
theorem madeInts (N : Nat) : madeCells #[Value.int .i64 0] N = (idsN (List.replicate N 0)).toArray := by
  apply Array.ext
  · simp [madeCells, idsN]
  · intro i h1 h2
    simp [madeCells, idsN, Nat.mod_one]
theorem make_ints (N : Nat) (hN : N ≤ 1000000) (w : World) : (Instr.makeSlice 61 (.int .i64 (N : Int)) (.int .i64 (N : Int))).run Tryz.prog w = .ok (.slice (some ⟨w.heap.size, 0, none⟩) N N) (w.alloc (.cells (idsN (List.replicate N 0)).toArray 3)) := by
  obtain ⟨i0, hi, hzz⟩ := Option.map_eq_some_iff.1 Tryz.infoIntI
  simp only [Prod.mk.injEq] at hzz
  obtain ⟨hz0, hz1, hz2⟩ := hzz
  have h := run_make (P := Tryz.prog) w 61 3 i0 (.int .i64 0) Tryz.underlying61 hi hz0 .i64 .i64 (N : Int) (N : Int) (by omega) (by omega) (by rw [hz2]; omega) (by omega)
  rw [hz1, Nat.mul_one, Int.toNat_natCast] at h
  rw [h, show (Value.int .i64 0).cells = #[Value.int .i64 0] from rfl, madeInts]
theorem SS.not_sz {z : Zr} {w : World} {s : Sc} (h : SS z w s) {k t : Nat} {l : List Value} (hc : Cells w k t l) (h1 : t ≠ 112) (h2 : t ≠ 129) (h3 : t ≠ 124) (h4 : t ≠ 127) : ¬ SZ z w k := by
  obtain ⟨vn, hg⟩ := h.gi
  obtain ⟨vl, cs, hI, _⟩ := h.sc
  rintro ((q | q | q | ⟨_, l', hl'⟩) | q | q | ⟨l', hl'⟩)
  · subst q; exact h3 (hc.ty hg.cells).1
  · obtain ⟨D, hD, _⟩ := hg.ids
    exact gmap_ne hD hc q.symm
  · obtain ⟨D, hD, _⟩ := hg.names
    exact gmap_ne hD hc q.symm
  · exact h1 (hc.ty hl').1
  · subst q; exact h4 (hc.ty hI.scope).1
  · obtain ⟨D, hD, _⟩ := hI.at_
    exact gmap_ne hD hc q.symm
  · exact h2 (hc.ty hl').1
theorem idsN_set (l : List Nat) (i n : Nat) : idsN (l.set i n) = (idsN l).set i (.int .i64 (n : Int)) := by unfold idsN; rw [List.map_set]
theorem names_len (E : List Ent) : (namesV E).length ≤ E.length := by have := names_le E E.length; rwa [List.take_length] at this
theorem def_defs {nm : ByteArray} {ps : List (ByteArray × Int)} {sort : Int} {x : Sx} {s : Sc} : (defF nm ps sort x s).2.defs ≤ s.defs + 1 := by
  unfold defF; split <;> simp
theorem decl_defs {nm : ByteArray} {sort : Int} {s : Sc} : (declF nm sort s).2.defs = s.defs := by
  unfold declF; repeat' split
  all_goals rfl
set_option maxHeartbeats 40000000 in
theorem lawTwice (l : List Stp) (A : Option Addr) (c : Nat) (W : World) (h : StpsOk W.heap.size W l A) (hlen : l.length ≤ 140737488355328) (he : ErrV W) :
    Calls Tryz.prog 8 #[.slice A l.length c] W fun e W' => e = .returned (.bool true) ∧ Below W.heap.size W W' := by
  obtain ⟨N, hN⟩ : ∃ N, l.length = N := ⟨_, rfl⟩
  have hll := fun (w : World) (hb : Below W.heap.size W w) => light_law l A c w (h.up (fun k hk => hb.block k hk) hb.size) hlen
  rw [hN] at hll hlen ⊢
  have AN := Aside0.mk hN
  have HL := Aside0.mk h
  have HLL := Aside0.mk hll
  have HE := Aside0.mk he
  clear h hN he hll
  go_enter Tryz.func8, Tryz.ntmps8
  go_wp2_with fail
  refine (known5_any W HE.out).mono ?_
  rintro e w1 ⟨rfl, hB1⟩
  have HB1 := Aside0.mk hB1
  clear hB1
  go_wp2_with fail
  refine (HLL.out w1 HB1.out).mono ?_
  rintro e w2 ⟨⟨b, rfl, hb⟩, hB2⟩
  have HB2 := Aside0.mk (HB1.out.trans (hB2.mono HB1.out.size))
  clear hB2
  cases b with
  | false =>
    clear hb
    go_wp2_with fail
    go_returns
    exact ⟨rfl, HB2.out⟩
  | true =>
    obtain ⟨h8, hps⟩ := hb rfl
    rw [AN.out] at h8
    have HPS := Aside0.mk hps
    clear hb hps
    go_wp2_with fail
    refine (tNew_any4096 w2).mono ?_
    rintro e w3 ⟨g, bi, bn, rfl, hG, hB3⟩
    have HB3 := Aside0.mk (HB2.out.trans (hB3.mono HB2.out.size))
    have HG := Aside0.mk hG
    have HB23 := Aside0.mk hB3
    clear hG hB3
    go_wp2_with fail
    refine (rNew_any w3 g).mono ?_
    rintro e w4 ⟨sb, ab, rfl, hsc, hab, h1, h2, hB4⟩
    have hB04 := HB3.out.trans (hB4.mono HB3.out.size)
    have heb : 3 < w2.heap.size := by
      obtain ⟨ev, h3, _⟩ := HE.out
      exact Nat.lt_of_lt_of_le (World.block_lt_of_cell? W _ h3) HB2.out.size
    have hs4 := SS.start HG.out hB4 HB23.out.size hsc hab h1 h2 (HE.out.below hB04) heb
    obtain ⟨z, hz⟩ : ∃ z : Zr, z = ⟨w2.heap.size, g, bi, bn, sb, g, ab⟩ := ⟨_, rfl⟩
    rw [← hz] at hs4
    have hzs : sb = z.sb := by rw [hz]
    have hzb : z.B = w2.heap.size := by rw [hz]
    clear hz hsc hab h1 h2 hB4 heb HG
    subst hzs
    have hzB : W.heap.size ≤ z.B := by rw [hzb]; exact HB2.out.size
    have hz4 : z.B ≤ w4.heap.size := by
      have := HB23.out.size
      have h5 := hs4.glt
      obtain ⟨vn, hgi⟩ := hs4.gi
      have := hgi.base
      omega
    have HZB := Aside0.mk hzB
    have HS4 := Aside0.mk hs4
    have HB4 := Aside0.mk hB04
    have HZ4 := Aside0.mk hz4
    have hmk := make_ints N (by omega)
    obtain ⟨ib, hib⟩ : ∃ ib, w4.heap.size = ib := ⟨_, rfl⟩
    have hI5 := Cells.new w4 3 (idsN (List.replicate N 0))
    have hb5 : Below w4.heap.size w4 (w4.alloc (.cells (idsN (List.replicate N 0)).toArray 3)) := (Below.refl _ w4).alloc (Nat.le_refl _) _
    obtain ⟨w5, hw5⟩ : ∃ w5, w4.alloc (.cells (idsN (List.replicate N 0)).toArray 3) = w5 := ⟨_, rfl⟩
    rw [hw5, hib] at hI5
    rw [hw5] at hb5
    have HID5 : Aside0 (Cells w5 ib 3 (idsN (List.replicate N 0))) := ⟨hI5⟩
    have HS5 := Aside0.mk (HS4.out.below hb5)
    have HB5 := Aside0.mk (HB4.out.trans (hb5.mono HB4.out.size))
    have HZ5 : Aside0 (z.B ≤ w5.heap.size) := ⟨Nat.le_trans hz4 hb5.size⟩
    have HIB : Aside0 (z.B ≤ ib) := ⟨by rw [← hib]; exact hz4⟩
    have hN8 : (N : Int) ≤ 800 := by omega
    clear hs4 hzb hzB hz4 hI5 hb5 hB04
    go_wp2_with fail
    try rw [hw5]
    try rw [hib]
    clear hw5 hib hmk
    go_loopw [6, 7, 8] (fun v6 v7 v8 wr => ∃ (i : Nat) (s : Sc) (ids : List Nat), i ≤ N ∧ v6 = .int .i64 (i : Int) ∧ Aside0 (SS z wr s) ∧ Aside0 (ids.length = N) ∧ Aside0 (Cells wr ib 3 (idsN ids)) ∧ Aside0 (∀ (j : Nat) (st : Stp) (id : Nat), l[j]? = some st → ids[j]? = some id → Again s.E s.G st.x id) ∧ Aside0 (s.E.length ≤ i) ∧ Aside0 (s.defs ≤ i) ∧ Aside0 (Below W.heap.size W wr) ∧ Aside0 (z.B ≤ wr.heap.size)) (fun v6 _ _ _ => N - (intOf v6).toNat)
    case atStart => exact ⟨0, _, List.replicate N 0, by omega, rfl, HS5, ⟨by simp⟩, HID5, ⟨fun j st id _ hid => .inl (by
      rw [List.getElem?_replicate] at hid
      split at hid
      · exact (Option.some.inj hid).symm
      · cases hid)⟩, ⟨Nat.zero_le _⟩, ⟨Nat.zero_le _⟩, HB5, HZ5⟩
    case round =>
      obtain ⟨i, s, ids, hi, rfl, HSS, HIL, HID, HAG, HEL, HDF, HB, HZ⟩ := hrel
      by_cases hlt : i < N
      · have i0 : (0 : Int) ≤ (i : Int) := by omega
        have i1 : (i : Int) < (N : Int) := by omega
        obtain ⟨st, hst⟩ : ∃ st, l[i]? = some st := ⟨_, List.getElem?_eq_getElem (by rw [AN.out]; exact hlt)⟩
        obtain ⟨ad, pa, pc, xa, xc, rfl, had, c0, c1, c2, c3, c4, c5, c6, hwh, hso, hnz, hpc, hpm, _, hpar, hrt⟩ := step_cells HL.out i st hst
        have C0 := Aside0.mk c0
        have C1 := Aside0.mk c1
        have C2 := Aside0.mk c2
        have C3 := Aside0.mk c3
        have C4 := Aside0.mk c4
        have C5 := Aside0.mk c5
        have C6 := Aside0.mk c6
        have HNZ := Aside0.mk hnz
        have HSO := Aside0.mk hso
        have HPC := Aside0.mk (And.intro hpc hpm)
        have HPA := Aside0.mk hpar
        have HRT := Aside0.mk hrt
        have HST := Aside0.mk hst
        have HPL : Aside0 (st.ps.length ≤ 1000000) := ⟨by have := HPS.out st (List.mem_of_getElem? hst); omega⟩
        obtain ⟨wh, hwh2⟩ : ∃ wh, st.what = wh := ⟨_, rfl⟩
        have HNL : Aside0 ((namesV s.E).length ≤ 1000000) := ⟨by have := names_len s.E; have := HEL.out; omega⟩
        have HEN : Aside0 (s.E.length < 999999 ∧ s.defs ≤ 1000000) := ⟨by have := HEL.out; have := HDF.out; omega⟩
        rw [hwh2] at C0
        clear c0 c1 c2 c3 c4 c5 c6 hnz hso hpc hpm hpar hrt hst hwh hwh2 had
        go_wp2_with fail
        refine (Names_any z wr s HSS.out).mono ?_
        rintro e w1 ⟨⟨v1, rfl, hrow⟩, hB1⟩
        have HS1 := Aside0.mk (HSS.out.below hB1)
        have HI1 := Aside0.mk (HID.out.below hB1)
        have HBW1 := Aside0.mk (HB.out.trans (hB1.mono HB.out.size))
        have HZ1 : Aside0 (z.B ≤ w1.heap.size) := ⟨Nat.le_trans HZ.out hB1.size⟩
        have HRW := Aside0.mk hrow
        clear hB1 hrow
        have c0 := cell_below HBW1.out C0.out
        by_cases h0 : wh = 0
        · subst h0
          go_upto_region 16 with (fail)
          clear c0
          refine wp_plan [(0, 0), (0, 1), (0, 2), (0, 3), (0, 4), (0, 6), (0, 7), (0, 8), (0, 9), (1, 5), (1, 10), (3, 11), (0, 12)] (fun w' => Below W.heap.size W w') (by kernel_rfl) (by kernel_rfl) (fun _ _ d _ _ h => by cases d <;> exact h) HBW1.out.drew ?_
          simp only [planOps, List.filterMap_cons, List.filterMap_nil, List.getElem?_toArray, List.getElem?_cons_zero, List.getElem?_cons_succ, Option.map_some]
          repeat (first
            | (refine' plan_pu _ (by rfl) (fun w' => ?_) ?_; rotate_left 1; (focus (go_simp; try (with_reducible rfl))); (try simp only [wrapi_0, wrapi_1, wrapi_2, wrapi_3, wrapi_4]); simp only [Act.put, List.setIfInBounds_toArray, List.set_cons_zero, List.set_cons_succ])
            | (refine' plan_off (by rfl) ?_; (try simp only [wrapi_0, wrapi_1, wrapi_2, wrapi_3, wrapi_4]); simp only [Act.put, List.setIfInBounds_toArray, List.set_cons_zero, List.set_cons_succ])
            | (refine' plan_offL (by rfl) ?_; (try simp only [wrapi_0, wrapi_1, wrapi_2, wrapi_3, wrapi_4]); simp only [Act.put, List.setIfInBounds_toArray, List.set_cons_zero, List.set_cons_succ])
            | (refine' plan_offE (by rfl) (by first | assumption | exact (by assumption)) ?_; (try simp only [wrapi_0, wrapi_1, wrapi_2, wrapi_3, wrapi_4]); simp only [Act.put, List.setIfInBounds_toArray, List.set_cons_zero, List.set_cons_succ])
            | (refine' plan_ld _ (by rfl) (fun w' hSw => ?_) ?_; rotate_left 1; (focus ((try dsimp only at hSw); have c1 := cell_below hSw C1.out; have c2 := cell_below hSw C2.out; go_simp; try (with_reducible rfl))); (try simp only [wrapi_0, wrapi_1, wrapi_2, wrapi_3, wrapi_4]); simp only [Act.put, List.setIfInBounds_toArray, List.set_cons_zero, List.set_cons_succ]))
          refine plan_fi (fun K hK => ?_)
          go_simp
          refine (Declare_any z w1.drew s st.name st.sort (HS1.out.below ((Below.refl _ w1).drew)) HZ1.out HNZ.out HSO.out HEN.out.1).mono ?_
          rintro e wb ⟨rfl, hS2, hM2, hB2⟩
          obtain ⟨⟨er, s2⟩, hd⟩ : ∃ r, declF st.name st.sort s = r := ⟨_, rfl⟩
          have hdd := decl_dec (nm := st.name) (sort := st.sort) HS1.out.dec
          have hdl := decl_len (nm := st.name) (sort := st.sort) (s := s)
          have hdf := decl_defs (nm := st.name) (sort := st.sort) (s := s)
          rw [hd] at hS2 hdd hdl hdf
          rw [hd]
          dsimp only at hS2 hdd hdl hdf ⊢
          have hm2 : Mod (SZ z w1) w1 wb := ((Mod.refl (SZ z w1) w1).drew).trans hM2
          have HSS2 := Aside0.mk hS2
          have HID2 := Aside0.mk (HS1.out.cells hm2 HI1.out (by decide) (by decide) (by decide) (by decide))
          have HB2 := Aside0.mk (HBW1.out.trans (((Below.refl z.B w1).drew.trans hB2).mono HZB.out))
          have HZ2 : Aside0 (z.B ≤ wb.heap.size) := ⟨Nat.le_trans HZ1.out hm2.size⟩
          have HRW2 : Aside0 (wb.ownsRow wr.heap.size 77 2 v1 (namesV s.E).length (parC (namesV s.E))) := ⟨own_keep HRW.out hm2 (fun k hk => by
            obtain ⟨l', hl'⟩ := own_cells HRW.out k hk
            exact HS1.out.not_sz hl' (by decide) (by decide) (by decide) (by decide))⟩
          have HSA := Aside0.mk hdd.2.2.2
          have HAG2 : Aside0 (∀ (j : Nat) (st : Stp) (id : Nat), l[j]? = some st → ids[j]? = some id → Again s2.E s2.G st.x id) := ⟨fun j st id h1 h2 => (HAG.out j st id h1 h2).grow hdd.2.2.1 hdd.2.1⟩
          have HEL2 : Aside0 (s2.E.length ≤ i + 1) := ⟨by have := HEL.out; omega⟩
          have HDF2 : Aside0 (s2.defs ≤ i + 1) := ⟨by have := HDF.out; omega⟩
          obtain ⟨ids2, hids2⟩ : ∃ ids2, ids2 = ids := ⟨_, rfl⟩
          rw [← hids2] at HID2 HAG2
          have HIL2 : Aside0 (ids2.length = N) := ⟨by rw [hids2]; exact HIL.out⟩
          refine hK.out _ _ ?_
          clear hK K hS2 hM2 hB2 hd hdd hdl hdf hm2 hids2
          repeat (first
            | (refine' plan_pu _ (by rfl) (fun w' => ?_) ?_; rotate_left 1; (focus (go_simp; try (with_reducible rfl))); (try simp only [wrapi_0, wrapi_1, wrapi_2, wrapi_3, wrapi_4]); simp only [Act.put, List.setIfInBounds_toArray, List.set_cons_zero, List.set_cons_succ])
            | (refine' plan_off (by rfl) ?_; (try simp only [wrapi_0, wrapi_1, wrapi_2, wrapi_3, wrapi_4]); simp only [Act.put, List.setIfInBounds_toArray, List.set_cons_zero, List.set_cons_succ])
            | (refine' plan_offL (by rfl) ?_; (try simp only [wrapi_0, wrapi_1, wrapi_2, wrapi_3, wrapi_4]); simp only [Act.put, List.setIfInBounds_toArray, List.set_cons_zero, List.set_cons_succ])
            | (refine' plan_offE (by rfl) (by first | assumption | exact (by assumption)) ?_; (try simp only [wrapi_0, wrapi_1, wrapi_2, wrapi_3, wrapi_4]); simp only [Act.put, List.setIfInBounds_toArray, List.set_cons_zero, List.set_cons_succ])
            | (refine' plan_ld _ (by rfl) (fun w' hSw => ?_) ?_; rotate_left 1; (focus ((try dsimp only at hSw); skip; go_simp; try (with_reducible rfl))); (try simp only [wrapi_0, wrapi_1, wrapi_2, wrapi_3, wrapi_4]); simp only [Act.put, List.setIfInBounds_toArray, List.set_cons_zero, List.set_cons_succ]))
          refine plan_nil ?_
          have HFIN : Aside0 (∀ wq, Below wb.heap.size wb wq → SS z wq s2 ∧ Cells wq ib 3 (idsN ids2) ∧ Below W.heap.size W wq ∧ z.B ≤ wq.heap.size) := ⟨fun wq hq => ⟨HSS2.out.below hq, HID2.out.below hq, (HB2.out.trans (hq.mono HB2.out.size)), Nat.le_trans HZ2.out hq.size⟩⟩
          by_cases her : er = 0
          · subst her
            go_wp2_with fail
            go_roundw
            case rel => exact ⟨i + 1, s2, ids2, by omega, by go_num, HSS2, HIL2, HID2, HAG2, HEL2, HDF2, HB2, HZ2⟩
            case measure => simp [intOf]; omega
          · have her2 : (er != 0) = true := by simpa using her
            have hsame : s2.E = s.E := HSA.out her
            have HSAME := Aside0.mk hsame
            clear her hsame
            go_wp2_with fail
            refine (Names_any z wb s2 HSS2.out).mono ?_
            rintro e w6 ⟨⟨v6, rfl, hr6⟩, hB6⟩
            rw [HSAME.out] at hr6
            have hrw6 : w6.ownsRow wr.heap.size 77 2 v1 (namesV s.E).length (parC (namesV s.E)) := own_keep HRW2.out (Mod.of_below (S := fun _ => False) hB6) (fun _ _ q => q)
            have HP := Aside0.mk (Params_same w6 (namesV s.E) _ _ v6 v1 hr6 hrw6 HNL.out)
            have HF6 := Aside0.mk (HFIN.out _ hB6)
            have HB6 := Aside0.mk hB6
            clear hr6 hrw6 hB6
            go_wp2_with fail
            refine HP.out.mono ?_
            rintro e w7 ⟨rfl, hB7⟩
            have hf := HFIN.out _ (HB6.out.trans (hB7.mono HB6.out.size))
            have HS7 := Aside0.mk hf.1
            have HI7 := Aside0.mk hf.2.1
            have HB7 := Aside0.mk hf.2.2.1
            have HZ7 := Aside0.mk hf.2.2.2
            clear hB7 hf
            go_wp2_with fail
            go_roundw
            case rel => exact ⟨i + 1, s2, ids2, by omega, by go_num, HS7, HIL2, HI7, HAG2, HEL2, HDF2, HB7, HZ7⟩
            case measure => simp [intOf]; omega
        · by_cases h1 : wh = 1
          · subst h1
            clear h0
            go_upto_region 18 with (fail)
            clear c0
            refine wp_plan [(0, 0), (0, 1), (0, 2), (0, 3), (0, 4), (0, 6), (0, 7), (0, 8), (0, 9), (0, 11), (0, 12), (0, 13), (0, 14), (0, 16), (0, 17), (0, 18), (0, 19), (1, 5), (1, 10), (1, 15), (1, 20), (3, 21), (0, 22)] (fun w' => Below W.heap.size W w') (by kernel_rfl) (by kernel_rfl) (fun _ _ d _ _ h => by cases d <;> exact h) HBW1.out.drew ?_
            simp only [planOps, List.filterMap_cons, List.filterMap_nil, List.getElem?_toArray, List.getElem?_cons_zero, List.getElem?_cons_succ, Option.map_some]
            repeat (first
              | (refine' plan_pu _ (by rfl) (fun w' => ?_) ?_; rotate_left 1; (focus (go_simp; try (with_reducible rfl))); (try simp only [wrapi_0, wrapi_1, wrapi_2, wrapi_3, wrapi_4]); simp only [Act.put, List.setIfInBounds_toArray, List.set_cons_zero, List.set_cons_succ])
              | (refine' plan_off (by rfl) ?_; (try simp only [wrapi_0, wrapi_1, wrapi_2, wrapi_3, wrapi_4]); simp only [Act.put, List.setIfInBounds_toArray, List.set_cons_zero, List.set_cons_succ])
              | (refine' plan_offL (by rfl) ?_; (try simp only [wrapi_0, wrapi_1, wrapi_2, wrapi_3, wrapi_4]); simp only [Act.put, List.setIfInBounds_toArray, List.set_cons_zero, List.set_cons_succ])
              | (refine' plan_offE (by rfl) (by first | assumption | exact (by assumption)) ?_; (try simp only [wrapi_0, wrapi_1, wrapi_2, wrapi_3, wrapi_4]); simp only [Act.put, List.setIfInBounds_toArray, List.set_cons_zero, List.set_cons_succ])
              | (refine' plan_ld _ (by rfl) (fun w' hSw => ?_) ?_; rotate_left 1; (focus ((try dsimp only at hSw); have c1 := cell_below hSw C1.out; have c2 := cell_below hSw C2.out; have c3 := cell_below hSw C3.out; have c4 := cell_below hSw C4.out; have c5 := cell_below hSw C5.out; have c6 := cell_below hSw C6.out; go_simp; try (with_reducible rfl))); (try simp only [wrapi_0, wrapi_1, wrapi_2, wrapi_3, wrapi_4]); simp only [Act.put, List.setIfInBounds_toArray, List.set_cons_zero, List.set_cons_succ]))
            refine plan_fi (fun K hK => ?_)
            go_simp
            have hbd := HBW1.out.drew
            have hs1d : SS z w1.drew s := HS1.out.below ((Below.refl _ w1).drew)
            refine (Define_any z w1.drew s st.name st.ps pa pc st.sort st.x xa xc (HS1.out.below ((Below.refl _ w1).drew)) HZ1.out HNZ.out HSO.out HEN.out.1 HEN.out.2 HPL.out HPC.out.1 HPC.out.2 (fun j p hj => ?_) (RT_move (w' := w1.drew) (fun k hk => (show w1.drew.heap[k]? = W.heap[k]? from hbd.block k hk)) (fun k hk => hs1d.arg HZ1.out (Nat.lt_of_lt_of_le hk HZB.out)) _ _ HRT.out)).mono ?_
            · obtain ⟨e1, e2, ad2, e3, e4, e5, e6⟩ := HPA.out j p hj
              exact ⟨by unfold maxLen; omega, e2, ad2, e3, hs1d.arg HZ1.out (Nat.lt_of_lt_of_le e4 HZB.out), cell_below hbd e5, cell_below hbd e6⟩
            rintro e wb ⟨rfl, hS2, hM2, hB2⟩
            obtain ⟨⟨er, s2⟩, hd⟩ : ∃ r, defF st.name st.ps st.sort st.x s = r := ⟨_, rfl⟩
            have hdd := def_dec (nm := st.name) (ps := st.ps) (sort := st.sort) (x := st.x) HS1.out.dec
            have hdl := def_len (nm := st.name) (ps := st.ps) (sort := st.sort) (x := st.x) (s := s)
            have hdf := def_defs (nm := st.name) (ps := st.ps) (sort := st.sort) (x := st.x) (s := s)
            rw [hd] at hS2 hdd hdl hdf
            rw [hd]
            dsimp only at hS2 hdd hdl hdf ⊢
            have hm2 : Mod (SZ z w1) w1 wb := ((Mod.refl (SZ z w1) w1).drew).trans hM2
            have HSS2 := Aside0.mk hS2
            have HID2 := Aside0.mk (HS1.out.cells hm2 HI1.out (by decide) (by decide) (by decide) (by decide))
            have HB2 := Aside0.mk (HBW1.out.trans (((Below.refl z.B w1).drew.trans hB2).mono HZB.out))
            have HZ2 : Aside0 (z.B ≤ wb.heap.size) := ⟨Nat.le_trans HZ1.out hm2.size⟩
            have HRW2 : Aside0 (wb.ownsRow wr.heap.size 77 2 v1 (namesV s.E).length (parC (namesV s.E))) := ⟨own_keep HRW.out hm2 (fun k hk => by
              obtain ⟨l', hl'⟩ := own_cells HRW.out k hk
              exact HS1.out.not_sz hl' (by decide) (by decide) (by decide) (by decide))⟩
            have HSA := Aside0.mk hdd.2.2.2
            have HAG2 : Aside0 (∀ (j : Nat) (st : Stp) (id : Nat), l[j]? = some st → ids[j]? = some id → Again s2.E s2.G st.x id) := ⟨fun j st id h1 h2 => (HAG.out j st id h1 h2).grow hdd.2.2.1 (hdd.2.1 ▸ .refl _)⟩
            have HEL2 : Aside0 (s2.E.length ≤ i + 1) := ⟨by have := HEL.out; omega⟩
            have HDF2 : Aside0 (s2.defs ≤ i + 1) := ⟨by have := HDF.out; omega⟩
            obtain ⟨ids2, hids2⟩ : ∃ ids2, ids2 = ids := ⟨_, rfl⟩
            rw [← hids2] at HID2 HAG2
            have HIL2 : Aside0 (ids2.length = N) := ⟨by rw [hids2]; exact HIL.out⟩
            refine hK.out _ _ ?_
            clear hK K hS2 hM2 hB2 hd hdd hdl hdf hm2 hids2 hbd hs1d
            repeat (first
              | (refine' plan_pu _ (by rfl) (fun w' => ?_) ?_; rotate_left 1; (focus (go_simp; try (with_reducible rfl))); (try simp only [wrapi_0, wrapi_1, wrapi_2, wrapi_3, wrapi_4]); simp only [Act.put, List.setIfInBounds_toArray, List.set_cons_zero, List.set_cons_succ])
              | (refine' plan_off (by rfl) ?_; (try simp only [wrapi_0, wrapi_1, wrapi_2, wrapi_3, wrapi_4]); simp only [Act.put, List.setIfInBounds_toArray, List.set_cons_zero, List.set_cons_succ])
              | (refine' plan_offL (by rfl) ?_; (try simp only [wrapi_0, wrapi_1, wrapi_2, wrapi_3, wrapi_4]); simp only [Act.put, List.setIfInBounds_toArray, List.set_cons_zero, List.set_cons_succ])
              | (refine' plan_offE (by rfl) (by first | assumption | exact (by assumption)) ?_; (try simp only [wrapi_0, wrapi_1, wrapi_2, wrapi_3, wrapi_4]); simp only [Act.put, List.setIfInBounds_toArray, List.set_cons_zero, List.set_cons_succ])
              | (refine' plan_ld _ (by rfl) (fun w' hSw => ?_) ?_; rotate_left 1; (focus ((try dsimp only at hSw); skip; go_simp; try (with_reducible rfl))); (try simp only [wrapi_0, wrapi_1, wrapi_2, wrapi_3, wrapi_4]); simp only [Act.put, List.setIfInBounds_toArray, List.set_cons_zero, List.set_cons_succ]))
            refine plan_nil ?_
            have HFIN : Aside0 (∀ wq, Below wb.heap.size wb wq → SS z wq s2 ∧ Cells wq ib 3 (idsN ids2) ∧ Below W.heap.size W wq ∧ z.B ≤ wq.heap.size) := ⟨fun wq hq => ⟨HSS2.out.below hq, HID2.out.below hq, (HB2.out.trans (hq.mono HB2.out.size)), Nat.le_trans HZ2.out hq.size⟩⟩
            by_cases her : er = 0
            · subst her
              go_wp2_with fail
              go_roundw
              case rel => exact ⟨i + 1, s2, ids2, by omega, by go_num, HSS2, HIL2, HID2, HAG2, HEL2, HDF2, HB2, HZ2⟩
              case measure => simp [intOf]; omega
            · have her2 : (er != 0) = true := by simpa using her
              have hsame : s2.E = s.E := HSA.out her
              have HSAME := Aside0.mk hsame
              clear her hsame
              go_wp2_with fail
              refine (Names_any z wb s2 HSS2.out).mono ?_
              rintro e w6 ⟨⟨v6, rfl, hr6⟩, hB6⟩
              rw [HSAME.out] at hr6
              have hrw6 : w6.ownsRow wr.heap.size 77 2 v1 (namesV s.E).length (parC (namesV s.E)) := own_keep HRW2.out (Mod.of_below (S := fun _ => False) hB6) (fun _ _ q => q)
              have HP := Aside0.mk (Params_same w6 (namesV s.E) _ _ v6 v1 hr6 hrw6 HNL.out)
              have HF6 := Aside0.mk (HFIN.out _ hB6)
              have HB6 := Aside0.mk hB6
              clear hr6 hrw6 hB6
              go_wp2_with fail
              refine HP.out.mono ?_
              rintro e w7 ⟨rfl, hB7⟩
              have hf := HFIN.out _ (HB6.out.trans (hB7.mono HB6.out.size))
              have HS7 := Aside0.mk hf.1
              have HI7 := Aside0.mk hf.2.1
              have HB7 := Aside0.mk hf.2.2.1
              have HZ7 := Aside0.mk hf.2.2.2
              clear hB7 hf
              go_wp2_with fail
              go_roundw
              case rel => exact ⟨i + 1, s2, ids2, by omega, by go_num, HS7, HIL2, HI7, HAG2, HEL2, HDF2, HB7, HZ7⟩
              case measure => simp [intOf]; omega
          · have c4 := cell_below HBW1.out C4.out
            have c5 := cell_below HBW1.out C5.out
            have c6 := cell_below HBW1.out C6.out
            have HT := Aside0.mk (Term_any z w1 s st.x _ HS1.out HZ1.out (RT_move (fun k hk => HBW1.out.block k hk) (fun k hk => (HS1.out.arg HZ1.out (Nat.lt_of_lt_of_le hk HZB.out)).1) _ _ HRT.out))
            have hag := Again.term (x := st.x) HS1.out.dec
            have hext := term_ext (x := st.x) HS1.out.dec
            obtain ⟨⟨⟨id, er⟩, ⟨rn, G2⟩⟩, hR⟩ : ∃ R, termF s.E st.x s.G = R := ⟨_, rfl⟩
            rw [hR] at HT hag hext
            dsimp only at HT hag hext
            have HAGT := Aside0.mk hag
            have HEXT := Aside0.mk hext
            clear hR hag hext
            go_wp2_with fail
            refine HT.out.mono ?_
            rintro e w2 ⟨rfl, hS2, hM2, hB2⟩
            have hI2 := HS1.out.cells hM2 HI1.out (by decide) (by decide) (by decide) (by decide)
            obtain ⟨wb, hwb⟩ : ∃ wb, w2.setCell ⟨ib, i, none⟩ (.int .i64 (id : Int)) = wb := ⟨_, rfl⟩
            have hm3 : Mod (fun k => k = ib) w2 wb := by rw [← hwb]; exact (Mod.refl (fun k => k = ib) w2).setCell (p := ⟨ib, i, none⟩) (.inl rfl) _
            have hI3 : Cells wb ib 3 ((idsN ids).set i (.int .i64 (id : Int))) := by rw [← hwb]; exact hI2.set i _
            obtain ⟨oid, hoid⟩ : ∃ oid, ids[i]? = some oid := ⟨_, List.getElem?_eq_getElem (by rw [HIL.out]; exact hlt)⟩
            have z0 := hI2.cell i (.int .i64 (oid : Int)) (by unfold idsN; rw [List.getElem?_map, hoid]; rfl)
            have f0 := hI2.frozen i
            have hm2 : Mod (fun k => SZ z w1 k ∨ k = ib) w1 wb := (Mod.mono hM2 (fun _ _ q => .inl q)).trans (Mod.mono hm3 (fun _ _ q => .inr q))
            obtain ⟨s2, hs2⟩ : ∃ s2 : Sc, s2 = { s with G := G2 } := ⟨_, rfl⟩
            rw [← hs2] at hS2
            have HSS2 := Aside0.mk (hS2.other hI2 hm3 HIB.out)
            obtain ⟨ids2, hids2⟩ : ∃ ids2, ids2 = ids.set i id := ⟨_, rfl⟩
            have HID2 : Aside0 (Cells wb ib 3 (idsN ids2)) := ⟨by rw [hids2, idsN_set]; exact hI3⟩
            have HIL2 : Aside0 (ids2.length = N) := ⟨by rw [hids2, List.length_set]; exact HIL.out⟩
            have HB2 := Aside0.mk (HBW1.out.trans ((hB2.trans (hm3.belowB (fun k q => by rw [q]; exact HIB.out) (Nat.le_trans HZ1.out hM2.size))).mono HZB.out))
            have HZ2 : Aside0 (z.B ≤ wb.heap.size) := ⟨Nat.le_trans HZ1.out hm2.size⟩
            have HRW2 : Aside0 (wb.ownsRow wr.heap.size 77 2 v1 (namesV s.E).length (parC (namesV s.E))) := ⟨own_keep HRW.out hm2 (fun k hk q => by
              obtain ⟨l', hl'⟩ := own_cells HRW.out k hk
              rcases q with q | q
              · exact HS1.out.not_sz hl' (by decide) (by decide) (by decide) (by decide) q
              · subst q; exact absurd (hl'.ty HI1.out).1 (by decide))⟩
            have HSA : Aside0 (er ≠ 0 → s2.E = s.E) := ⟨fun _ => by rw [hs2]⟩
            have HAG2 : Aside0 (∀ (j : Nat) (st : Stp) (id : Nat), l[j]? = some st → ids2[j]? = some id → Again s2.E s2.G st.x id) := ⟨fun j st' id' h1 h2 => by
              rw [hs2]
              rw [hids2, List.getElem?_set] at h2
              split at h2
              · next hji =>
                subst hji
                rw [HST.out] at h1; cases h1
                split at h2
                · cases h2; exact HAGT.out
                · cases h2
              · exact (HAG.out j st' id' h1 h2).grow (List.prefix_refl _) HEXT.out⟩
            have HEL2 : Aside0 (s2.E.length ≤ i + 1) := ⟨by rw [hs2]; have := HEL.out; show s.E.length ≤ i + 1; omega⟩
            have HDF2 : Aside0 (s2.defs ≤ i + 1) := ⟨by rw [hs2]; have := HDF.out; show s.defs ≤ i + 1; omega⟩
            clear hS2 hM2 hB2 hI2 hm3 hI3 hoid hm2 hs2 hids2
            go_upto_region 19 with (fail)
            try rw [hwb]
            clear hwb z0 f0 c0 c4 c5 c6
            have HFIN : Aside0 (∀ wq, Below wb.heap.size wb wq → SS z wq s2 ∧ Cells wq ib 3 (idsN ids2) ∧ Below W.heap.size W wq ∧ z.B ≤ wq.heap.size) := ⟨fun wq hq => ⟨HSS2.out.below hq, HID2.out.below hq, (HB2.out.trans (hq.mono HB2.out.size)), Nat.le_trans HZ2.out hq.size⟩⟩
            by_cases her : er = 0
            · subst her
              go_wp2_with fail
              go_roundw
              case rel => exact ⟨i + 1, s2, ids2, by omega, by go_num, HSS2, HIL2, HID2, HAG2, HEL2, HDF2, HB2, HZ2⟩
              case measure => simp [intOf]; omega
            · have her2 : (er != 0) = true := by simpa using her
              have hsame : s2.E = s.E := HSA.out her
              have HSAME := Aside0.mk hsame
              clear her hsame
              go_wp2_with fail
              refine (Names_any z wb s2 HSS2.out).mono ?_
              rintro e w6 ⟨⟨v6, rfl, hr6⟩, hB6⟩
              rw [HSAME.out] at hr6
              have hrw6 : w6.ownsRow wr.heap.size 77 2 v1 (namesV s.E).length (parC (namesV s.E)) := own_keep HRW2.out (Mod.of_below (S := fun _ => False) hB6) (fun _ _ q => q)
              have HP := Aside0.mk (Params_same w6 (namesV s.E) _ _ v6 v1 hr6 hrw6 HNL.out)
              have HF6 := Aside0.mk (HFIN.out _ hB6)
              have HB6 := Aside0.mk hB6
              clear hr6 hrw6 hB6
              go_wp2_with fail
              refine HP.out.mono ?_
              rintro e w7 ⟨rfl, hB7⟩
              have hf := HFIN.out _ (HB6.out.trans (hB7.mono HB6.out.size))
              have HS7 := Aside0.mk hf.1
              have HI7 := Aside0.mk hf.2.1
              have HB7 := Aside0.mk hf.2.2.1
              have HZ7 := Aside0.mk hf.2.2.2
              clear hB7 hf
              go_wp2_with fail
              go_roundw
              case rel => exact ⟨i + 1, s2, ids2, by omega, by go_num, HS7, HIL2, HI7, HAG2, HEL2, HDF2, HB7, HZ7⟩
              case measure => simp [intOf]; omega
      · have i1 : ¬ (i : Int) < (N : Int) := by omega
        clear hlt
        go_wp2_with fail
        have HB0 := Aside0.mk HB.out
        go_loopw [9, 10, 11] (fun v9 v10 v11 wr => ∃ (j : Nat), j ≤ N ∧ v9 = .int .i64 (j : Int) ∧ Aside0 (SS z wr s) ∧ Aside0 (Cells wr ib 3 (idsN ids)) ∧ Aside0 (Below W.heap.size W wr) ∧ Aside0 (z.B ≤ wr.heap.size)) (fun v9 _ _ _ => N - (intOf v9).toNat)
        case atStart => exact ⟨0, by omega, rfl, HSS, HID, HB, HZ⟩
        case round =>
          clear HSS HID HB HZ
          obtain ⟨j, hj, rfl, HSS, HID, HB, HZ⟩ := hrel
          by_cases hlt : j < N
          · have j0 : (0 : Int) ≤ (j : Int) := by omega
            have j1 : (j : Int) < (N : Int) := by omega
            obtain ⟨st, hst⟩ : ∃ st, l[j]? = some st := ⟨_, List.getElem?_eq_getElem (by rw [AN.out]; exact hlt)⟩
            obtain ⟨id, hid⟩ : ∃ id, ids[j]? = some id := ⟨_, List.getElem?_eq_getElem (by rw [HIL.out]; exact hlt)⟩
            obtain ⟨ad, pa, pc, xa, xc, rfl, had, c0, c1, c2, c3, c4, c5, c6, hwh, hso, hnz, hpc, hpm, _, hpar, hrt⟩ := step_cells HL.out j st hst
            obtain ⟨wh, hwh2⟩ : ∃ wh, st.what = wh := ⟨_, rfl⟩
            rw [hwh2] at c0
            have HRT := Aside0.mk hrt
            have c0 := cell_below HB.out c0
            have c4 := cell_below HB.out c4
            have c5 := cell_below HB.out c5
            have c6 := cell_below HB.out c6
            have d0 := HID.out.cell j (.int .i64 (id : Int)) (by unfold idsN; rw [List.getElem?_map, hid]; rfl)
            have HAJ := Aside0.mk (HAG.out j st id hst hid)
            clear c1 c2 c3 hso hnz hpc hpm hpar hrt hst hid hwh hwh2 had
            by_cases hw1 : 1 < wh
            · by_cases hi0 : 0 < id
              · have hi1 : (0 : Int) < (id : Int) := by omega
                have HT := Aside0.mk (Term_any z wr s st.x _ HSS.out HZ.out (RT_move (fun k hk => HB.out.block k hk) (fun k hk => (HSS.out.arg HZ.out (Nat.lt_of_lt_of_le hk HZB.out)).1) _ _ HRT.out))
                obtain ⟨h1, h2⟩ := HAJ.out.same hi0
                rw [h1, h2] at HT
                dsimp only at HT
                clear h1 h2 hi0
                go_wp2_with fail
                refine HT.out.mono ?_
                rintro e w2 ⟨rfl, hS2, hM2, hB2⟩
                have HS2 := Aside0.mk hS2
                have HI2 := Aside0.mk (HSS.out.cells hM2 HID.out (by decide) (by decide) (by decide) (by decide))
                have HBW2 := Aside0.mk (HB.out.trans (hB2.mono HZB.out))
                have HZ2 : Aside0 (z.B ≤ w2.heap.size) := ⟨Nat.le_trans HZ.out hM2.size⟩
                have d2 := (HI2.out).cell j (.int .i64 (id : Int)) (by
                  have e1 := HID.out.cell j
                  unfold Cells at HID HI2
                  have h3 : w2.cell? ⟨ib, j, none⟩ = wr.cell? ⟨ib, j, none⟩ := World.cell?_of_block (by rw [HI2.out, HID.out])
                  have := d0
                  unfold World.cell? at this
                  rw [HID.out] at this
                  simpa using this)
                clear hS2 hM2 hB2 c0 c4 c5 c6 d0
                go_wp2_with fail
                go_roundw
                case rel => exact ⟨j + 1, by omega, by go_num, HS2, HI2, HBW2, HZ2⟩
                case measure => simp [intOf]; omega
              · have hi1 : ¬ (0 : Int) < (id : Int) := by omega
                clear hi0
                go_wp2_with fail
                go_roundw
                case rel => exact ⟨j + 1, by omega, by go_num, HSS, HID, HB, HZ⟩
                case measure => simp [intOf]; omega
            · go_wp2_with fail
              go_roundw
              case rel => exact ⟨j + 1, by omega, by go_num, HSS, HID, HB, HZ⟩
              case measure => simp [intOf]; omega
          · have j1 : ¬ (j : Int) < (N : Int) := by omega
            clear hlt
            go_wp2_with fail
            go_returns
            exact ⟨rfl, HB.out⟩
end Go.Proofs.YthhnhbpmpdminaaGreatDoor
