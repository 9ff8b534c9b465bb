/-
Several texts as one: Rdi Rfr.
-/
import Derived.Test.YthhnhbpmpdminaaGreatDoorXN
import Derived.Test.YthhnhbpmpdminaaGreatDoorXM
/-
read.worker: distinct. Conditions: the reader in memory.
-/
namespace Go.Proofs.YthhnhbpmpdminaaGreatDoor
set_option maxRecDepth 4096
set_option maxHeartbeats 8000000
set_option linter.unusedSimpArgs false
set_option linter.unusedVariables false
set_option linter.unnecessarySimpa false
open Go.RowKit Go.Proofs.YthhnhbpmpdminaaGreatDoorW.PrintWords Go.Maps
section
variable (z : Zr) (w : World) (E : List Ent) (vl : Value) (cs : List Value) (defs : Int) (r : Rd)
theorem neF_err {x y : Nat} {r r1 : Rd} {id : Nat} {er : Int} (h : twoF 8 x y r = ((id, er), r1)) (he : er ≠ 0) : neF (x, y) r = ((0, er), r1) := by
  unfold neF; rw [show twoF 8 (x, y).1 (x, y).2 r = ((id, er), r1) from h]; unfold thenF; rw [if_pos he]; rfl
theorem neF_ok {x y : Nat} {r r1 : Rd} {id : Nat} (h : twoF 8 x y r = ((id, 0), r1)) : neF (x, y) r = makeF { nd0 with op := 3, a := id } r1 := by
  unfold neF; rw [show twoF 8 (x, y).1 (x, y).2 r = ((id, 0), r1) from h]; unfold thenF; rw [if_neg (by simp)]
theorem distinct_any (L : List Nat) (b c : Nat) (hi : IdOk z w L b) (hl2 : 2 ≤ L.length) (hl : L.length ≤ 1000000) (h : RI z w E vl cs defs r) (hB : z.B ≤ w.heap.size) :
    Calls Tryz.prog 207 #[.pointer (some ⟨z.wb, 0, none⟩), .slice (some ⟨b, 0, none⟩) L.length c] w fun e w' => RPost z w E vl cs defs (distinctF L r) e w' := by
  obtain ⟨R, hR⟩ : ∃ R, distinctF L r = R := ⟨_, rfl⟩
  rw [hR]
  have HR : Aside0 (thenL (preL [] (seqF neF (pairsV (L.drop 0)) r)) (fun l r => leftA 4 l r) = R) := ⟨by
    rw [← hR]
    unfold distinctF
    rfl⟩
  have HI := Aside0.mk hi
  have HW := Aside0.mk h
  clear hi h hR
  go_enter Tryz.func207, Tryz.ntmps207
  go_wp2_with fail
  go_loopw [6, 13] (fun v6 v13 wr => ∃ (i : Nat) (l : List Nat) (r' : Rd), i ≤ L.length ∧ Aside0 (l.length ≤ i * 1000000 ∧ (i = 0 ∨ l ≠ [])) ∧ v13 = .int .i64 (i : Int) ∧ Aside0 (IB w.heap.size wr l v6) ∧ Aside0 (thenL (preL l (seqF neF (pairsV (L.drop i)) r')) (fun l r => leftA 4 l r) = R) ∧ Aside0 (RI z wr E vl cs defs r') ∧ Aside0 (KR z w wr) ∧ Aside0 (Below z.B w wr)) (fun _ v13 _ => L.length - (intOf v13).toNat)
  case atStart => exact ⟨0, [], r, by omega, ⟨by simp, .inl rfl⟩, rfl, ⟨IB.nil _ _⟩, HR, HW, ⟨KR.refl _⟩, ⟨Below.refl _ _⟩⟩
  case round =>
    obtain ⟨i, l, r', hj, HQ, rfl, HL, HR', HW', HK', HB'⟩ := hrel
    by_cases hlt : i < L.length
    · have hlt' : (i : Int) < (L.length : Int) := by omega
      obtain ⟨x, hx⟩ : ∃ x, L[i]? = some x := ⟨_, List.getElem?_eq_getElem hlt⟩
      have HX := Aside0.mk hx
      have HS0 : Aside0 (thenL (preL l (seqF neF ((L.drop (i + 1)).map (fun y => (x, y)) ++ pairsV (L.drop (i + 1))) r')) (fun l r => leftA 4 l r) = R) := ⟨by
        have := HR'.out
        rw [List.drop_eq_getElem_cons hlt, (List.getElem?_eq_some_iff.1 hx).2] at this
        exact this⟩
      have hw1 : wrap64 ((i : Int) + 1) = ((i + 1 : Nat) : Int) := by unfold wrap64; omega
      have HQ2 : Aside0 (l.length ≤ i * 1000000 + (i + 1) ∧ (l ≠ [] ∨ (i = 0 ∧ i + 1 = 1))) := ⟨by
        have h9 := HQ.out.1
        generalize i * 1000000 = m at h9 ⊢
        omega, by
        rcases HQ.out.2 with q | q
        · exact .inr ⟨q, by rw [q]⟩
        · exact .inl q⟩
      clear hx HR'
      go_wp2_with fail
      go_loopw [6, 8] (fun v6 v8 wq => ∃ (k : Nat) (l' : List Nat) (r2 : Rd), i + 1 ≤ k ∧ k ≤ L.length ∧ Aside0 (l'.length ≤ i * 1000000 + k ∧ (l' ≠ [] ∨ (i = 0 ∧ k = 1))) ∧ v8 = .int .i64 (k : Int) ∧ Aside0 (IB w.heap.size wq l' v6) ∧ Aside0 (thenL (preL l' (seqF neF ((L.drop k).map (fun y => (x, y)) ++ pairsV (L.drop (i + 1))) r2)) (fun l r => leftA 4 l r) = R) ∧ Aside0 (RI z wq E vl cs defs r2) ∧ Aside0 (KR z w wq) ∧ Aside0 (Below z.B w wq)) (fun _ v8 _ => L.length - (intOf v8).toNat)
      case atStart => exact ⟨i + 1, l, r', by omega, by omega, HQ2, congrArg (Value.int .i64) (Int.natCast_succ i).symm, HL, HS0, HW', HK', HB'⟩
      case round =>
        clear HQ HQ2 HL HS0 HW' HK' HB' hw1
        obtain ⟨k, l, r', hik, hk, HQ, rfl, HL, HR', HW', HK', HB'⟩ := hrel
        by_cases hkt : k < L.length
        · have hkt' : (k : Int) < (L.length : Int) := by omega
          obtain ⟨y, hy⟩ : ∃ y, L[k]? = some y := ⟨_, List.getElem?_eq_getElem hkt⟩
          have hd := (HI.out.next HK'.out).2 i x HX.out
          have hd2 := (HI.out.next HK'.out).2 k y hy
          have hcell := hd.1
          have hcell2 := hd2.1
          have HX1 := Aside0.mk hd.2
          have HX2 := Aside0.mk hd2.2
          have HZ : Aside0 ((L.drop k).map (fun y => (x, y)) ++ pairsV (L.drop (i + 1)) = (x, y) :: ((L.drop (k + 1)).map (fun y => (x, y)) ++ pairsV (L.drop (i + 1)))) := ⟨by
            rw [List.drop_eq_getElem_cons hkt, (List.getElem?_eq_some_iff.1 hy).2]
            rfl⟩
          clear hd hd2 hy
          have hw2 : wrap64 ((k : Int) + 1) = (k : Int) + 1 := by unfold wrap64; omega
          go_upto_region 8 with (fail)
          refine wp_plan [(0, 0), (0, 1), (0, 2), (0, 3), (0, 5), (0, 6), (0, 7), (1, 4), (1, 8), (3, 9), (0, 10), (0, 11), (0, 12), (0, 13), (0, 14)] (fun w' => w' = _) (by kernel_rfl) (by kernel_rfl) (fun _ _ d _ _ h => by cases d <;> exact h) rfl ?_
          simp only [planOps, List.filterMap_cons, List.filterMap_nil, List.getElem?_toArray, List.getElem?_cons_zero, List.getElem?_cons_succ, Option.map_some]
          repeat (first
            | (refine' plan_pu _ (by rfl) (fun w' => ?_) ?_; rotate_left 1; (focus (go_simp; try (with_reducible rfl))); (try simp only [wrapi_0, wrapi_1, wrapi_2, wrapi_3, wrapi_4, wrapi_0]); simp only [Act.put, List.setIfInBounds_toArray, List.set_cons_zero, List.set_cons_succ])
            | (refine' plan_off (by rfl) ?_; (try simp only [wrapi_0, wrapi_1, wrapi_2, wrapi_3, wrapi_4, wrapi_0]); simp only [Act.put, List.setIfInBounds_toArray, List.set_cons_zero, List.set_cons_succ])
            | (refine' plan_offL (by rfl) ?_; (try simp only [wrapi_0, wrapi_1, wrapi_2, wrapi_3, wrapi_4, wrapi_0]); simp only [Act.put, List.setIfInBounds_toArray, List.set_cons_zero, List.set_cons_succ])
            | (refine' plan_ld _ (by rfl) (fun w' hSw => ?_) ?_; rotate_left 1; (focus (subst hSw; go_simp; try (with_reducible rfl))); (try simp only [wrapi_0, wrapi_1, wrapi_2, wrapi_3, wrapi_4, wrapi_0]); simp only [Act.put, List.setIfInBounds_toArray, List.set_cons_zero, List.set_cons_succ]))
          refine plan_fi (fun K hK => ?_)
          go_simp
          refine (two_any z wr.drew E vl cs defs r' 8 x y (by unfold i64ok; omega) HX1.out HX2.out (HW'.out.below ((Below.refl _ wr).drew)) (Nat.le_trans hB (HB'.out.size))).mono ?_
          rintro e w1 ⟨rfl, g1, g2, g3⟩
          have G1 := Aside0.mk g1
          have gl := HL.out.move HW'.out ((KR.refl wr).drew.trans g2)
          have GL := Aside0.mk gl
          have G2 := Aside0.mk (HK'.out.drew.trans g2)
          have G3 := Aside0.mk (HB'.out.drew.trans g3)
          clear g1 g2 g3 gl HL
          obtain ⟨⟨⟨id, er⟩, r2⟩, hrr⟩ : ∃ rr, twoF 8 x y r' = rr := ⟨_, rfl⟩
          have HID : Aside0 (er = 0 → id ≤ 1000000) := ⟨fun q => two_small (by have := G1.out; rw [hrr] at this; exact this) hrr q⟩
          have HE := Aside0.mk hrr
          rw [hrr] at G1 ⊢
          clear hrr
          dsimp only at G1 ⊢
          have hS := HR'.out
          rw [HZ.out] at hS
          refine hK.out _ _ ?_
          clear hK K
          by_cases he : er = 0
          · subst he
            have HS := Aside0.mk hS
            clear hS HR'
            repeat (first
              | (refine' plan_pu _ (by rfl) (fun w' => ?_) ?_; rotate_left 1; (focus (go_simp; try (with_reducible rfl))); (try simp only [wrapi_0, wrapi_1, wrapi_2, wrapi_3, wrapi_4]); simp only [Act.put, List.setIfInBounds_toArray, List.set_cons_zero, List.set_cons_succ])
              | (refine' plan_off (by rfl) ?_; (try simp only [wrapi_0, wrapi_1, wrapi_2, wrapi_3, wrapi_4]); simp only [Act.put, List.setIfInBounds_toArray, List.set_cons_zero, List.set_cons_succ])
              | (refine' plan_offL (by rfl) ?_; (try simp only [wrapi_0, wrapi_1, wrapi_2, wrapi_3, wrapi_4]); simp only [Act.put, List.setIfInBounds_toArray, List.set_cons_zero, List.set_cons_succ])
              | (refine' plan_offE (by rfl) (by first | assumption | exact (by assumption)) ?_; (try simp only [wrapi_0, wrapi_1, wrapi_2, wrapi_3, wrapi_4]); simp only [Act.put, List.setIfInBounds_toArray, List.set_cons_zero, List.set_cons_succ])
              | (refine' plan_ld _ (by rfl) (fun w' hSw => ?_) ?_; rotate_left 1; (focus ((try dsimp only at hSw); skip; go_simp; try (with_reducible rfl))); (try simp only [wrapi_0, wrapi_1, wrapi_2, wrapi_3, wrapi_4]); simp only [Act.put, List.setIfInBounds_toArray, List.set_cons_zero, List.set_cons_succ]))
            refine plan_nil ?_
            have k0 := G1.out.wk.cell 0 _ rfl
            have t0 := G1.out.sc.scope.cell 0 _ rfl
            have HX3 : Aside0 (Nd.Wf ⟨3, 0, id, 0, 0, 0, 0, 0, 0, 0, ⟨#[]⟩⟩) := ⟨by
              have := HID.out rfl
              constructor
              all_goals first
                | (unfold i64ok; simp only; omega)
                | (unfold u64ok; simp only; omega)
                | exact Nat.zero_le _⟩
            go_upto_region 11 with (fail)
            obtain ⟨vn, hg⟩ := G1.out.gi
            have hz1 : z.B ≤ w1.heap.size := Nat.le_trans hB G2.out.size
            refine (Make_any z.B z.g z.bi z.bn r2.G vn ⟨3, 0, id, 0, 0, 0, 0, 0, 0, 0, ⟨#[]⟩⟩ w1 hg hz1 HX3.out).mono ?_
            intro e w2 hp
            have hq := make_post (Below.refl _ w1) G1.out hz1 hp
            clear hp hg
            have hE := neF_ok HE.out
            obtain ⟨⟨⟨id2, er2⟩, r3⟩, hrr⟩ : ∃ rr, makeF ⟨3, 0, id, 0, 0, 0, 0, 0, 0, 0, ⟨#[]⟩⟩ r2 = rr := ⟨_, rfl⟩
            have hE : neF (x, y) r' = ((id2, er2), r3) := hE.trans hrr
            rw [hrr] at hq
            obtain ⟨rfl, g1, g2, g3⟩ := hq
            dsimp only at g1 ⊢
            have J1 := Aside0.mk g1
            have JL := Aside0.mk (GL.out.move G1.out g2)
            have J2 := Aside0.mk (G2.out.trans g2)
            have J3 := Aside0.mk (G3.out.trans g3)
            have JD := Aside0.mk (fun q => make_small g1 hrr q)
            clear g1 g2 g3 hrr
            have hS := HS.out
            by_cases he : er2 = 0
            · subst he
              rw [seqF_ok hE] at hS
              have JS := Aside0.mk hS
              clear hS hE HS
              have hz : w.heap.size ≤ w2.heap.size := J2.out.size
              have hll : l.length ≤ 2000000000000 := by have := HQ.out.1; omega
              go_wp2_with (at_builtin; (refine apl_at (w0 := w2) _ w.heap.size (.tmp 55) (.tmp 57) 61 3 (.int .i64 0) 1 8 u6 l.length (idsN l) [.int .i64 (id2 : Int)] ⟨w2.heap.size, 0, none⟩ 1 rfl rfl (news_one (Cells.new w2 _ _)) Tryz.underlying61 Tryz.infoIntI rfl (by decide) (by decide) (by rfl) (by rfl) rfl (by simp [Value.oneCell']) (JL.out.own.alloc _) ((Below.refl _ _).alloc hz _) (Nat.le_trans hz (by simp)) (by omega) ?_; intro v1 w3 hown1 hB3 hg1 hat1; have HO1 := Aside0.mk hown1; have HB3 := Aside0.mk hB3; have HG1 := Aside0.mk hg1; clear hown1 hB3 hg1 hat1))
              have hk3 : KR z w w3 := J2.out.grow HB3.out
              have hb3 : Below z.B w w3 := J3.out.trans (HB3.out.mono hB)
              refine ⟨⟨k + 1, l ++ [id2], r3, by omega, by omega, ⟨by have := HQ.out.1; simp only [List.length_append, List.length_singleton]; omega, .inl (by simp)⟩, congrArg (Value.int .i64) (by omega), ⟨JL.out.push (JD.out rfl) HO1.out⟩, JS, ⟨?_⟩, ⟨hk3⟩, ⟨hb3⟩⟩, by simp only [intOf]; omega⟩
              exact (J1.out.below ((Below.refl _ w2).alloc (Nat.le_refl _) _)).grown (JL.out.own.alloc _) HG1.out (HW.out.sc.next hk3)
            · have hq : failF er2 r3 = R := by
                rw [seqF_err hE he] at hS
                exact hS
              have HQ := Aside0.mk hq
              clear hq hS
              go_wp2_with fail
              go_returns
              rw [← HQ.out]
              exact ⟨rfl, J1.out, J2.out, J3.out⟩
          · have hq : failF er r2 = R := by
              rw [seqF_err (neF_err HE.out he) he] at hS
              exact hS
            have HQ := Aside0.mk hq
            clear hq hS
            repeat (first
              | (refine' plan_pu _ (by rfl) (fun w' => ?_) ?_; rotate_left 1; (focus (go_simp; try (with_reducible rfl))); (try simp only [wrapi_0, wrapi_1, wrapi_2, wrapi_3, wrapi_4]); simp only [Act.put, List.setIfInBounds_toArray, List.set_cons_zero, List.set_cons_succ])
              | (refine' plan_off (by rfl) ?_; (try simp only [wrapi_0, wrapi_1, wrapi_2, wrapi_3, wrapi_4]); simp only [Act.put, List.setIfInBounds_toArray, List.set_cons_zero, List.set_cons_succ])
              | (refine' plan_offL (by rfl) ?_; (try simp only [wrapi_0, wrapi_1, wrapi_2, wrapi_3, wrapi_4]); simp only [Act.put, List.setIfInBounds_toArray, List.set_cons_zero, List.set_cons_succ])
              | (refine' plan_offE (by rfl) (by first | assumption | exact (by assumption)) ?_; (try simp only [wrapi_0, wrapi_1, wrapi_2, wrapi_3, wrapi_4]); simp only [Act.put, List.setIfInBounds_toArray, List.set_cons_zero, List.set_cons_succ])
              | (refine' plan_ld _ (by rfl) (fun w' hSw => ?_) ?_; rotate_left 1; (focus ((try dsimp only at hSw); skip; go_simp; try (with_reducible rfl))); (try simp only [wrapi_0, wrapi_1, wrapi_2, wrapi_3, wrapi_4]); simp only [Act.put, List.setIfInBounds_toArray, List.set_cons_zero, List.set_cons_succ]))
            refine plan_nil ?_
            go_wp2_with fail
            go_returns
            rw [← HQ.out]
            exact ⟨rfl, G1.out, G2.out, G3.out⟩
        · obtain rfl : k = L.length := by omega
          go_wp2_with fail
          refine ⟨⟨i + 1, l, r', by omega, ⟨by have := HQ.out.1; omega, by
            rcases HQ.out.2 with q | q
            · exact .inr q
            · omega⟩, by simp, HL, ⟨?_⟩, HW', HK', HB'⟩, by simp only [intOf]; omega⟩
          have := HR'.out
          rw [List.drop_of_length_le (Nat.le_refl _)] at this
          exact this
    · obtain rfl : i = L.length := by omega
      clear hlt
      have hS := HR'.out
      rw [List.drop_of_length_le (by simp)] at hS
      have hS : thenL (preL l (seqF neF [] r')) (fun l r => leftA 4 l r) = R := hS
      rw [seqF_nil] at hS
      have hne : l ≠ [] := by
        rcases HQ.out.2 with q | q
        · omega
        · exact q
      obtain ⟨b1, c1, rfl, hid, hc1, hc2⟩ := HL.out.idok HW'.out hne
      obtain ⟨x, t, rfl⟩ : ∃ x t, l = x :: t := by cases l with
        | nil => exact absurd rfl hne
        | cons x t => exact ⟨x, t, rfl⟩
      have hS2 : leftF 4 t x r' = R := by
        rw [← hS]
        simp [preL, thenL, leftA]
      have HS := Aside0.mk hS2
      have HID := Aside0.mk hid
      have HT : Aside0 (t.length ≤ 1000000000000) := ⟨by have := HQ.out.1; simp only [List.length_cons] at this; omega⟩
      rw [List.length_cons] at hc1 ⊢
      clear hS hS2 hid hne HQ
      go_wp2_with fail
      refine (fromLeft_any z wr E vl cs defs r' 4 (by unfold i64ok; omega) x t b1 c1 HID.out HT.out hc1 hc2 HW'.out (Nat.le_trans hB HB'.out.size)).mono ?_
      rintro e w1 ⟨rfl, g1, g2, g3⟩
      rw [HS.out] at g1 ⊢
      have G1 := Aside0.mk g1
      have G2 := Aside0.mk (HK'.out.trans g2)
      have G3 := Aside0.mk (HB'.out.trans g3)
      clear g1 g2 g3
      go_wp2_with fail
      go_returns
      exact ⟨rfl, G1.out, G2.out, G3.out⟩
end
end Go.Proofs.YthhnhbpmpdminaaGreatDoor
/-
read.worker: fromRight. Conditions: the reader in memory.
-/
namespace Go.Proofs.YthhnhbpmpdminaaGreatDoor
set_option maxRecDepth 4096
set_option maxHeartbeats 8000000
set_option linter.unusedSimpArgs false
set_option linter.unusedVariables false
set_option linter.unnecessarySimpa false
open Go.RowKit Go.Proofs.YthhnhbpmpdminaaGreatDoorW.PrintWords Go.Maps
section
variable (z : Zr) (w : World) (E : List Ent) (vl : Value) (cs : List Value) (defs : Int) (r : Rd)
theorem fromRight_any (op : Int) (ho : i64ok op) (a : Nat) (ids : List Nat) (b c : Nat) (hi : IdOk z w (ids ++ [a]) b) (hl : ids.length ≤ 1000000) (h : RI z w E vl cs defs r) (hB : z.B ≤ w.heap.size) :
    Calls Tryz.prog 208 #[.pointer (some ⟨z.wb, 0, none⟩), .int .i64 op, .slice (some ⟨b, 0, none⟩) (ids.length + 1) c] w fun e w' => RPost z w E vl cs defs (rightF op ids.reverse a r) e w' := by
  obtain ⟨R, hR⟩ : ∃ R, rightF op ids.reverse a r = R := ⟨_, rfl⟩
  rw [hR]
  have HR := Aside0.mk hR
  have HI := Aside0.mk hi
  have HW := Aside0.mk h
  have hla := hi.2 ids.length a (by simp)
  have HA := Aside0.mk hla.2
  have d0 := hla.1
  have e1 : wrap64 ((ids.length : Int) + 1 - 1) = (ids.length : Int) := by unfold wrap64; omega
  have e2 : wrap64 ((ids.length : Int) + 1 - 2) = (ids.length : Int) - 1 := by unfold wrap64; omega
  have e3 : ids.length < ids.length + 1 := by omega
  clear hi h hR hla
  go_enter Tryz.func208, Tryz.ntmps208
  go_wp2_with fail
  go_loopw [8, 10] (fun v8 v10 wr => ∃ (j a' : Nat) (r' : Rd), j ≤ ids.length ∧ v10 = .int .i64 ((j : Int) - 1) ∧ v8 = .int .i64 (a' : Int) ∧ Aside0 (a' ≤ 1000000) ∧ Aside0 (rightF op (ids.take j).reverse a' r' = R) ∧ Aside0 (RI z wr E vl cs defs r') ∧ Aside0 (KR z w wr) ∧ Aside0 (Below z.B w wr)) (fun _ v10 _ => ((intOf v10) + 1).toNat)
  case atStart => exact ⟨ids.length, a, r, by omega, congrArg (Value.int .i64) (by omega), rfl, HA, ⟨by rw [List.take_length]; exact HR.out⟩, HW, ⟨KR.refl _⟩, ⟨Below.refl _ _⟩⟩
  case round =>
    obtain ⟨j, a', r', hj, rfl, rfl, HA', HR', HW', HK', HB'⟩ := hrel
    by_cases hlt : 0 < j
    · obtain ⟨i, rfl⟩ : ∃ i, j = i + 1 := ⟨j - 1, by omega⟩
      have hlt' : i < ids.length := by omega
      obtain ⟨x, hx⟩ : ∃ x, ids[i] = x := ⟨_, rfl⟩
      have hd := (HI.out.next HK'.out).2 i x (by rw [List.getElem?_append_left hlt', List.getElem?_eq_getElem hlt', hx])
      have hcell := hd.1
      have HXX := Aside0.mk hd.2
      have HS : Aside0 (thenF (twoF op x a' r') (fun id r => rightF op (ids.take i).reverse id r) = R) := ⟨by
        rw [← HR'.out, List.take_succ_eq_append_getElem hlt', List.reverse_append, hx]; rfl⟩
      clear hd hx HR'
      have f1 : ((i + 1 : Nat) : Int) - 1 = (i : Int) := by omega
      rw [f1]
      have f2 : wrap64 ((i : Int) - 1) = (i : Int) - 1 := by unfold wrap64; omega
      have f3 : (i : Int) < (ids.length : Int) + 1 := by omega
      clear f1
      go_wp2_with fail
      refine (two_any z wr E vl cs defs r' op x a' ho HXX.out HA'.out HW'.out (Nat.le_trans hB (HB'.out.size))).mono ?_
      rintro e w1 ⟨rfl, g1, g2, g3⟩
      have G1 := Aside0.mk g1
      have G2 := Aside0.mk (HK'.out.trans g2)
      have G3 := Aside0.mk (HB'.out.trans g3)
      clear g1 g2 g3
      obtain ⟨⟨⟨id, er⟩, r2⟩, hrr⟩ : ∃ rr, twoF op x a' r' = rr := ⟨_, rfl⟩
      have HID : Aside0 (er = 0 → id ≤ 1000000) := ⟨fun q => two_small (by have := G1.out; rw [hrr] at this; exact this) hrr q⟩
      rw [hrr] at HS G1 ⊢
      clear hrr
      dsimp only at G1 HS ⊢
      by_cases he : er = 0
      · subst he
        go_wp2_with fail
        exact ⟨⟨i, id, r2, by omega, rfl, rfl, ⟨HID.out rfl⟩, HS, G1, G2, G3⟩, by simp only [intOf]; omega⟩
      · have hq : failF er r2 = R := by
          have := HS.out
          unfold thenF at this
          rw [if_pos he] at this
          exact this
        have HQ := Aside0.mk hq
        clear hq
        go_wp2_with fail
        go_returns
        rw [← HQ.out]
        exact ⟨rfl, G1.out, G2.out, G3.out⟩
    · obtain rfl : j = 0 := by omega
      go_wp2_with fail
      go_returns
      have hq := HR'.out
      rw [← hq]
      exact ⟨rfl, HW'.out, HK'.out, HB'.out⟩
end
end Go.Proofs.YthhnhbpmpdminaaGreatDoor
