/-
read.bindings. Conditions: the thing lies in memory. (Written by mk_rbn.py out of rbn_head.txt.)
-/
import Derived.Test.YthhnhbpmpdminaaGreatDoorXT
import Derived.Test.YthhnhbpmpdminaaGreatDoorRbt
import Derived.Lib.SmallJoins
namespace Go.Proofs.YthhnhbpmpdminaaGreatDoor
set_option maxRecDepth 4096
set_option maxHeartbeats 8000000
set_option linter.unusedSimpArgs false
set_option linter.unusedVariables false
set_option linter.unnecessarySimpa false
open Go.RowKit Go.Proofs.YthhnhbpmpdminaaGreatDoorW.PrintWords Go.Maps PReadTwice
theorem infoStrB : (Tryz.prog.info? 9).map (fun i => (i.zero, i.size, i.bytes)) = some (some (.string ⟨#[]⟩), 1, 16) := by kernel_rfl
theorem infoSexpB : (Tryz.prog.info? 49).map (fun i => (i.zero, i.size, i.bytes)) = some (some (.agg #[.string ⟨#[]⟩, .bool false, .slice none 0 0]), 3, 48) := by kernel_rfl
theorem bindAll_snoc (y : Sx) : ∀ (l : List Sx) (ps : List (ByteArray × Sx)) (p : ByteArray × Sx), bindAll l = some ps → bindOne y = some p → bindAll (l ++ [y]) = some (ps ++ [p])
  | [], ps, p, h, h2 => by
    have : ps = [] := by unfold bindAll at h; exact (Option.some.inj h).symm
    subst this
    simp only [List.nil_append, bindAll, h2]
  | k :: r, ps, p, h, h2 => by
    rw [List.cons_append]
    unfold bindAll at h ⊢
    cases hk : bindOne k with
    | none => rw [hk] at h; cases h
    | some q =>
      cases hr : bindAll r with
      | none => rw [hk, hr] at h; cases h
      | some l =>
        rw [hk, hr] at h
        have hh : q :: l = ps := Option.some.inj h
        subst hh
        rw [bindAll_snoc y r l p hr h2]
        rfl
theorem bindAll_none : ∀ (l : List Sx) (i : Nat) (y : Sx), l[i]? = some y → bindOne y = none → bindAll l = none
  | [], i, y, h, _ => by simp at h
  | k :: r, 0, y, h, h2 => by
    have : k = y := by simpa using h
    subst this
    unfold bindAll
    rw [h2]
  | k :: r, i + 1, y, h, h2 => by
    unfold bindAll
    rw [bindAll_none r i y (by simpa using h) h2]
    cases bindOne k <;> rfl
theorem bindingsV_bad {x : Sx} (h1 : x.list = true) (h2 : x.kids ≠ []) (h : bindAll x.kids = none) : bindingsV x = .inl 54 := by
  unfold bindingsV
  rw [if_neg (fun q => q.elim (fun q => by rw [h1] at q; cases q) h2), h]
def cntV (s : ByteArray) (l : List ByteArray) : Nat := (l.filter fun t => t.data.toList == s.data.toList).length
theorem cnt_snoc (s t : ByteArray) (l : List ByteArray) : cntV s (l ++ [t]) = cntV s l + if t.data.toList == s.data.toList then 1 else 0 := by
  unfold cntV
  rw [List.filter_append, List.length_append]
  congr 1
  rw [List.filter_cons]
  split <;> rfl
theorem cnt_le (s : ByteArray) (l : List ByteArray) : cntV s l ≤ l.length := List.length_filter_le _ _
theorem twice_snoc (s : ByteArray) : ∀ (l : List ByteArray), twiceV (l ++ [s]) = (twiceV l || decide (0 < cntV s l))
  | [] => by simp [twiceV, cntV]
  | a :: r => by
    have hc : cntV s (a :: r) = (if a.data.toList == s.data.toList then 1 else 0) + cntV s r := by
      unfold cntV; rw [List.filter_cons]; split <;> simp <;> omega
    have ha : (s.data.toList == a.data.toList) = (a.data.toList == s.data.toList) := Bool.eq_iff_iff.2 ⟨fun h => by rw [beq_iff_eq] at h ⊢; exact h.symm, fun h => by rw [beq_iff_eq] at h ⊢; exact h.symm⟩
    rw [List.cons_append]
    unfold twiceV
    rw [twice_snoc s r, List.any_append, hc]
    simp only [List.any_cons, List.any_nil, Bool.or_false]
    rw [ha]
    cases hq : (a.data.toList == s.data.toList) with
    | true =>
      have h1 : 0 < 1 + cntV s r := by omega
      simp [h1]
    | false => simp [Bool.or_assoc, Bool.or_comm, Bool.or_left_comm]
def CntOk (D : DataW Unit) (l : List ByteArray) : Prop := ∀ s : ByteArray, s.size ≤ maxLen → D.atKey (.string s.data.toList) (.lit (.int .i64 0)) = .lit (.int .i64 (cntV s l : Int))
theorem CntOk.nil : CntOk (.map []) [] := fun _ _ => rfl
theorem CntOk.put {D : DataW Unit} {l : List ByteArray} (h : CntOk D l) (hm : Maps.IsMap D) (t : ByteArray) : CntOk (D.put (.string t.data.toList) (.lit (.int .i64 ((cntV t l + 1 : Nat) : Int)))) (l ++ [t]) := by
  intro s hs
  rw [cnt_snoc]
  by_cases q : t = s
  · subst q
    rw [Maps.atKey_put_same hm (show WideAt.IsKeyLit (Lit.string t.data.toList) from trivial), if_pos (by simp)]
  · have hne : Lit.string s.data.toList ≠ Lit.string t.data.toList := fun q2 => by
      simp only [Lit.string.injEq] at q2
      exact q (ba_ext q2.symm)
    have hb : ¬ (t.data.toList == s.data.toList) = true := fun q2 => q (ba_ext (by simpa using q2))
    rw [Maps.atKey_put_other hne, h s hs, if_neg hb, Nat.add_zero]
def BPost (O : Int ⊕ List (ByteArray × Sx)) (S : Nat → Prop) (w : World) (e : Ending) (w' : World) : Prop := Below w.heap.size w w' ∧ ∃ v1 v2 er, e = .returned (.tuple #[v1, v2, .int .i64 er]) ∧
    match O with
    | .inl e => er = e ∧ e ≠ 0
    | .inr ps => er = 0 ∧ WordsIn w.heap.size w' (ps.map (·.1)) v1 ∧ ThingsIn w.heap.size S w' (ps.map (·.2)) v2
theorem BPost.bad {O : Int ⊕ List (ByteArray × Sx)} {S : Nat → Prop} {w w' : World} {n : Int} (h : O = .inl n) (hn : n ≠ 0) (hb : Below w.heap.size w w') : BPost O S w (.returned (.tuple #[.slice none 0 0, .slice none 0 0, .int .i64 n])) w' := by
  subst h
  exact ⟨hb, _, _, n, rfl, rfl, hn⟩
set_option maxHeartbeats 20000000 in
theorem bind_any : BindC := by
  intro w S x cs hS hx
  have hfew := RT_few hx
  obtain ⟨A, k, rfl, hk, hm, hws, hR⟩ := RT_cells hx
  obtain ⟨O, hO⟩ : ∃ O, bindingsV x = O := ⟨_, rfl⟩
  rw [hO]
  show Calls Tryz.prog 200 _ w fun e w' => BPost O S w e w'
  obtain ⟨xw, hxw⟩ : ∃ v, x.word = v := ⟨_, rfl⟩
  obtain ⟨N, hN⟩ : ∃ v, x.kids.length = v := ⟨_, rfl⟩
  have AN := Aside0.mk hN
  have AO := Aside0.mk hO
  have AR := Aside0.mk hR
  rw [hxw, hN]
  rw [hN] at hk hfew
  have hN1 : (N : Int) ≤ 9223372036854775807 := by omega
  clear hx hR hO hxw hN hm hws hk
  cases hxl : x.list with
  | false =>
    have HF : Aside0 (O = .inl 54) := ⟨by rw [← AO.out]; unfold bindingsV; rw [if_pos (.inl hxl)]⟩
    clear hxl
    go_enter Tryz.func200, Tryz.ntmps200
    go_wp2_with fail
    go_returns
    exact BPost.bad HF.out (by decide) ((Below.refl _ w).alloc (Nat.le_refl _) _)
  | true =>
    have HXL := Aside0.mk hxl
    clear hxl
    by_cases hN0 : N = 0
    · have HF : Aside0 (O = .inl 54) := ⟨by rw [← AO.out]; unfold bindingsV; rw [if_pos (.inr (List.length_eq_zero_iff.1 (by rw [AN.out, hN0])))]⟩
      have z0 : ((N : Int) == 0) = true := by rw [hN0]; rfl
      clear hN0
      go_enter Tryz.func200, Tryz.ntmps200
      go_wp2_with fail
      go_returns
      exact BPost.bad HF.out (by decide) ((Below.refl _ w).alloc (Nat.le_refl _) _)
    · have z0 : ((N : Int) == 0) = false := by rw [beq_eq_false_iff_ne]; omega
      have HKE : Aside0 (x.kids ≠ []) := ⟨fun q => hN0 (by rw [← AN.out, q]; rfl)⟩
      have hcx := Cells.new w 49 [.string xw, .bool true, .slice A N k]
      have hbx := (Below.refl _ w).alloc (Nat.le_refl _) (.cells #[.string xw, .bool true, .slice A N k] 49)
      clear hN0
      go_enter Tryz.func200, Tryz.ntmps200
      go_wp2_with fail
      obtain ⟨wa, hwa⟩ : ∃ w0, w.alloc (.cells #[.string xw, .bool true, .slice A N k] 49) = w0 := ⟨_, rfl⟩
      rw [hwa] at hcx hbx
      try rw [hwa]
      have HBX := Aside0.mk hbx
      clear hcx hbx
      try clear hwa
      go_loopw [5, 6, 8, 25] (fun v5 v6 v8 v25 wr => ∃ (i : Nat) (ps : List (ByteArray × Sx)) (es : List Value), i ≤ N ∧ v25 = .int .i64 (i : Int) ∧ Aside0 (bindAll (x.kids.take i) = some ps) ∧ Aside0 (ps.length = i) ∧ Aside0 (wr.ownsRow w.heap.size 9 1 v5 i (ps.map fun p => .string p.1)) ∧ Aside0 (wr.ownsRow w.heap.size 49 3 v6 i es) ∧ Aside0 (Els wr S (ps.map (·.2)) es) ∧ Aside0 (∀ p ∈ ps, p.1.size ≤ maxLen) ∧ Aside0 (Below w.heap.size w wr)) (fun _ _ _ v25 _ => N - (intOf v25).toNat)
      case atStart => exact ⟨0, [], [], by omega, rfl, ⟨rfl⟩, ⟨rfl⟩, ⟨⟨rfl, .inl ⟨rfl, rfl⟩⟩⟩, ⟨⟨rfl, .inl ⟨rfl, rfl⟩⟩⟩, ⟨Els_nil _ _⟩, ⟨fun p hp => by cases hp⟩, HBX⟩
      case round =>
        obtain ⟨i, ps, es, hi, rfl, HBA, HPL, HN, HT, HE, HPZ, HW⟩ := hrel
        by_cases hlt : i < N
        · have i0 : (0 : Int) ≤ (i : Int) := by omega
          have i1 : (i : Int) < (N : Int) := by omega
          obtain ⟨y, hy⟩ : ∃ y, x.kids[i]? = some y := ⟨_, List.getElem?_eq_getElem (by rw [AN.out]; exact hlt)⟩
          have HY := Aside0.mk hy
          obtain ⟨ad, a2, k2, rfl, had, hrt, z1, z2, z3⟩ := RL_kid3 AR.out i y hy
          obtain ⟨_, _, hq, _, _, hyz, hRy⟩ := RT_cells hrt
          obtain ⟨yw, hyw⟩ : ∃ v, y.word = v := ⟨_, rfl⟩
          obtain ⟨yk, hyk⟩ : ∃ v, y.kids.length = v := ⟨_, rfl⟩
          have hRy2 : RL w S y.kids a2 0 := by
            simp only [List.cons.injEq, Value.slice.injEq, and_true, true_and] at hq
            obtain ⟨rfl, rfl⟩ := hq
            exact hRy
          rw [hyw] at z1
          rw [hyk] at z3
          have z1 := cell_below HW.out z1
          have z2 := cell_below HW.out z2
          have z3 := cell_below HW.out z3
          have HRY := Aside0.mk hRy2
          have HYK := Aside0.mk hyk
          have HBAD : Aside0 (bindOne y = none → O = .inl 54) := ⟨fun q => by rw [← AO.out]; exact bindingsV_bad HXL.out HKE.out (bindAll_none _ _ _ HY.out q)⟩
          have hc0 := Cells.new wr 49 [.string yw, .bool y.list, .slice a2 yk k2]
          have hb0 := HW.out.alloc HW.out.size (.cells #[.string yw, .bool y.list, .slice a2 yk k2] 49)
          have HC0 := Aside0.mk hc0
          have HB0 := Aside0.mk hb0
          clear hrt hq hyz hRy hRy2 hyw hyk hy had hc0 hb0
          cases hyl : y.list with
          | false =>
            have HF : Aside0 (O = .inl 54) := ⟨HBAD.out (by unfold bindOne; rw [hyl]; split <;> simp)⟩
            rw [hyl] at z2 HC0 HB0
            clear hyl
            go_wp2_with fail
            go_returns
            exact BPost.bad HF.out (by decide) HB0.out
          | true =>
            rw [hyl] at z2 HC0 HB0
            have HYL := Aside0.mk hyl
            clear hyl
            by_cases hy2 : yk = 2
            · subst hy2
              obtain ⟨nn, t, hnt⟩ : ∃ a b, y.kids = [a, b] := by
                have h2 := HYK.out
                obtain ⟨ks, hks⟩ : ∃ ks, y.kids = ks := ⟨_, rfl⟩
                rw [hks] at h2 ⊢
                match ks, h2 with
                | [a, b], _ => exact ⟨a, b, rfl⟩
              have hRY := HRY.out
              rw [hnt] at hRY
              obtain ⟨ad2, an, cn, rfl, had2, hrtn, n0, n1, n2⟩ := RL_kid3 hRY 0 nn rfl
              obtain ⟨ad2', ta, tc, hq, _, hrtt, t0, t1, t2⟩ := RL_kid3 hRY 1 t rfl
              cases hq
              have hx0 : ad2.add (0 * 3) = ad2 := by unfold Addr.add; simp
              have hy0 : ad2.add (1 * 3) = ⟨ad2.block, ad2.off + 3, none⟩ := by unfold Addr.add; simp
              rw [hx0] at n0 n1 n2
              rw [hy0] at t0 t1 t2
              dsimp only at t0 t1 t2
              obtain ⟨nw, hnw⟩ : ∃ v, nn.word = v := ⟨_, rfl⟩
              obtain ⟨_, _, _, _, _, hnz, _⟩ := RT_cells hrtn
              rw [hnw] at n0 hnz
              have NN0 := Aside0.mk n0
              have n1w := cell_below HW.out n1
              have n1a : (wr.alloc (.cells #[.string yw, .bool true, .slice (some ad2) 2 k2] 49)).cell? ⟨ad2.block, ad2.off + 1, none⟩ = some (.bool nn.list) := cell_below ((Below.refl _ wr).alloc (Nat.le_refl _) _) n1w
              obtain ⟨tw, htw⟩ : ∃ v, t.word = v := ⟨_, rfl⟩
              obtain ⟨tl, htl⟩ : ∃ v, t.list = v := ⟨_, rfl⟩
              obtain ⟨tk, htk⟩ : ∃ v, t.kids.length = v := ⟨_, rfl⟩
              rw [htw, htl, htk] at hrtt
              rw [htw] at t0
              rw [htl] at t1
              rw [htk] at t2
              have HRT := Aside0.mk hrtt
              have TT0 := Aside0.mk t0
              have TT1 := Aside0.mk t1
              have TT2 := Aside0.mk t2
              cases hnl : nn.list with
              | true =>
                have HF : Aside0 (O = .inl 54) := ⟨HBAD.out (by unfold bindOne; rw [hnt]; simp [hnl])⟩
                rw [hnl] at n1a
                clear hnl hrtt hrtn n0 n1 n2 t0 t1 t2 hx0 hy0 htw htl htk hnw hRY hnt n1w had2
                go_wp2_with fail
                go_returns
                exact BPost.bad HF.out (by decide) HB0.out
              | false =>
                rw [hnl] at n1a
                have hbo : bindOne y = some (nw, t) := by unfold bindOne; rw [hnt]; simp [hnl, HYL.out, hnw]
                have HBA : Aside0 (bindAll (x.kids.take (i + 1)) = some (ps ++ [(nw, t)])) := ⟨by
                  rw [List.take_add_one, HY.out]
                  exact bindAll_snoc y _ _ _ HBA.out hbo⟩
                have hpz : ∀ p ∈ ps ++ [(nw, t)], p.1.size ≤ maxLen := fun p hp => by
                  rcases List.mem_append.1 hp with q | q
                  · exact HPZ.out p q
                  · rw [List.mem_singleton] at q; subst q; unfold maxLen; exact hnz
                have HPZ := Aside0.mk hpz
                obtain ⟨ns, hns⟩ : ∃ ns, (ps.map fun p => Value.string p.1) = ns := ⟨_, rfl⟩
                rw [hns] at HN
                have HNS := Aside0.mk hns
                clear hnl hrtt hrtn n0 n1 n2 t0 t1 t2 hx0 hy0 htw htl htk hnw hRY hnt n1w hbo hpz hns had2
                go_upto_region 10 with (fail)
                obtain ⟨w0, hw0⟩ : ∃ w0, (wr.alloc (.cells #[.string yw, .bool true, .slice (some ad2) 2 k2] 49)).drew = w0 := ⟨_, rfl⟩
                have HS0 : Aside0 (Cells w0 wr.heap.size 49 [.string yw, .bool true, .slice (some ad2) 2 k2]) := ⟨by rw [← hw0]; exact HC0.out.drew⟩
                have HW0 : Aside0 (Below w.heap.size w w0) := ⟨by rw [← hw0]; exact HB0.out.drew⟩
                have HN0 : Aside0 (w0.ownsRow w.heap.size 9 1 u5 i ns) := ⟨by rw [← hw0]; exact (HN.out.alloc _).drew⟩
                have HT0 : Aside0 (w0.ownsRow w.heap.size 49 3 u6 i es) := ⟨by rw [← hw0]; exact (HT.out.alloc _).drew⟩
                have HE0 : Aside0 (Els w0 S (ps.map (·.2)) es) := ⟨by rw [← hw0]; exact Els_move HE.out (fun k hk => (Below.heap_alloc _ _ _ (Nat.lt_of_lt_of_le (hS k hk) HW.out.size))) (fun _ h => h)⟩
                have HZ0 : Aside0 (w0.heap.size ≤ w0.heap.size) := ⟨Nat.le_refl _⟩
                refine wp_planZ [(0, 0), (0, 1), (1, 2), (0, 3), (0, 4), (1, 5), (0, 8), (0, 9), (1, 10), (0, 11), (1, 12)] [14]
                  (fun w' => Cells w' wr.heap.size 49 [.string yw, .bool true, .slice (some ad2) 2 k2] ∧ Below w.heap.size w w')
                  #[true, true, true, true, true, true, false, false, true, true, true, true, true, false, false, false, false] 6 (by kernel_rfl) (by kernel_rfl) (fun _ _ d _ _ h => by cases d <;> exact h) ⟨HC0.out.drew, HB0.out.drew⟩ ?_
                rw [hw0]
                clear hw0
                simp only [planOps, List.filterMap_cons, List.filterMap_nil, List.getElem?_toArray, List.getElem?_cons_zero, List.getElem?_cons_succ, Option.map_some]
                repeat (first
                  | (refine' planZ_pu _ (by rfl) (fun w' => ?_) ?_; rotate_left 1; (focus (go_simp; try (with_reducible rfl))); simp only [Act.put, List.setIfInBounds_toArray, List.set_cons_zero, List.set_cons_succ])
                  | (refine' planZ_ld _ (by rfl) (fun w' hSw => ?_) ?_; rotate_left 1; (focus ((try dsimp only at hSw); have c2 := hSw.1.cell 2 _ rfl; have n0 := cell_below hSw.2 NN0.out; have t0 := cell_below hSw.2 TT0.out; have t1 := cell_below hSw.2 TT1.out; have t2 := cell_below hSw.2 TT2.out; go_simp; try (with_reducible rfl))); simp only [Act.put, List.setIfInBounds_toArray, List.set_cons_zero, List.set_cons_succ]))
                refine planZ_nil ?_
                refine plan_two 6 13 (by simp only [List.getElem?_toArray, List.getElem?_cons_succ, List.getElem?_cons_zero]; rfl) (by simp only [List.getElem?_toArray, List.getElem?_cons_succ, List.getElem?_cons_zero]; rfl) (by kernel_rfl) (fun K hK => ?_) (fun K hK => ?_)
                · go_simp
                  obtain ⟨w1, hw1⟩ : ∃ wx, w0.alloc (.cells #[.string nw] 9) = wx := ⟨_, rfl⟩
                  have hB1 : Below w0.heap.size w0 w1 := by rw [← hw1]; exact (Below.refl _ w0).alloc (Nat.le_refl _) _
                  obtain ⟨bn, hbn⟩ : ∃ b, w0.heap.size = b := ⟨_, rfl⟩
                  have HA1 : Aside0 (Cells w1 bn 9 [.string nw]) := ⟨by rw [← hw1, ← hbn]; exact Cells.new w0 _ _⟩
                  have HSZ1 : Aside0 (w0.heap.size ≤ w1.heap.size) := ⟨hB1.size⟩
                  have Hbnl : Aside0 (w0.heap.size ≤ bn) := ⟨by rw [← hbn]; exact HZ0.out⟩
                  have HZ1 : Aside0 (w0.heap.size ≤ w1.heap.size) := ⟨Nat.le_trans HZ0.out hB1.size⟩
                  have HS1 := Aside0.mk (HS0.out.below hB1)
                  have HW1 := Aside0.mk (HW0.out.trans (hB1.mono HW0.out.size))
                  have HN1 : Aside0 (w1.ownsRow w.heap.size 9 1 u5 i ns) := ⟨own_keep HN0.out (Mod.of_below (S := fun _ => False) hB1) (fun _ _ q => q)⟩
                  have HT1 : Aside0 (w1.ownsRow w.heap.size 49 3 u6 i es) := ⟨own_keep HT0.out (Mod.of_below (S := fun _ => False) hB1) (fun _ _ q => q)⟩
                  have HE1 := Aside0.mk (Els_move HE0.out (fun k hk => hB1.block k (Nat.lt_of_lt_of_le (hS k hk) HW0.out.size)) (fun _ h => h))
                  try rw [hw1]
                  try rw [hbn]
                  clear hw1 hB1 hbn
                  refine hK.out _ _ ⟨HS1.out, HW1.out⟩ (fun _ => ?_)
                  clear hK K
                  try simp only [Act.put, List.setIfInBounds_toArray, List.set_cons_zero, List.set_cons_succ]
                  refine plan_two 7 13 (by simp only [List.getElem?_toArray, List.getElem?_cons_succ, List.getElem?_cons_zero]; rfl) (by simp only [List.getElem?_toArray, List.getElem?_cons_succ, List.getElem?_cons_zero]; rfl) (by kernel_rfl) (fun K hK => ?_) (fun K hK => ?_)
                  · refine ap_at (w0 := w) w1 w.heap.size (.tmp 45) (.tmp 51) 72 9 (.string ⟨#[]⟩) 1 16 u5 i ns [.string nw] ⟨bn, 0, none⟩ 1 (fun j u hu => by rw [add0]; exact HA1.out.cell j u hu) (by rfl) rfl Tryz.underlying72 infoStrB rfl (by decide) (by decide) (by rfl) (by simp [Act.eval]) rfl (by simp [Value.oneCell']) HN1.out HW1.out HW1.out.size (by omega) ?_
                    intro v1 w2 hown1 hB1 hg1 _
                    obtain ⟨b1, cap1, l1, rfl, _, _, _, _, _⟩ := own_row hown1 (by omega)
                    have hlt1 : ∀ k, u5.ownBlock = some k → k < w0.heap.size := own_lt_size HN0.out
                    have HN2 := Aside0.mk hown1
                    have HW2 := Aside0.mk hB1
                    have HZ2 : Aside0 (w0.heap.size ≤ w2.heap.size) := ⟨Nat.le_trans HZ1.out hg1.size⟩
                    have HS2 := Aside0.mk (HS1.out.grown hg1 (own_ne_cells HN1.out HS1.out (by decide)))
                    have HT2 : Aside0 (w2.ownsRow w.heap.size 49 3 u6 i es) := ⟨HT1.out.kept hg1 (own_type_ne HT1.out HN1.out (by decide))⟩
                    have HE2 := Aside0.mk (Els_move HE1.out (fun k hk => hg1.block k (Nat.lt_of_lt_of_le (hS k hk) HW1.out.size) (fun q => by have := own_base_le HN1.out k q.symm; have := hS k hk; omega)) (fun _ h => h))
                    clear hown1 hB1 hg1 hlt1
                    refine hK.out _ _ ⟨HS2.out, HW2.out⟩ (fun _ => ?_)
                    clear hK K
                    try simp only [Act.put, List.setIfInBounds_toArray, List.set_cons_zero, List.set_cons_succ]
                    refine plan_on [(2, 13), (3, 14), (0, 15), (0, 16)] (by kernel_rfl) (fun _ _ d _ _ h => by cases d <;> exact h) ⟨HS2.out, HW2.out⟩ ?_
                    simp only [planOps, List.filterMap_cons, List.filterMap_nil, List.getElem?_toArray, List.getElem?_cons_zero, List.getElem?_cons_succ, Option.map_some]
                    refine plan_ef (fun K hK => ?_)
                    go_simp
                    obtain ⟨w3, hw3⟩ : ∃ wx, w2.alloc (.cells #[.string tw, .bool tl, .slice ta tk tc] 49) = wx := ⟨_, rfl⟩
                    have hB3 : Below w2.heap.size w2 w3 := by rw [← hw3]; exact (Below.refl _ w2).alloc (Nat.le_refl _) _
                    obtain ⟨bt, hbt⟩ : ∃ b, w2.heap.size = b := ⟨_, rfl⟩
                    have HC3 : Aside0 (Cells w3 bt 49 [.string tw, .bool tl, .slice ta tk tc]) := ⟨by rw [← hw3, ← hbt]; exact Cells.new w2 _ _⟩
                    have HSZ3 : Aside0 (w2.heap.size ≤ w3.heap.size) := ⟨hB3.size⟩
                    have Hbtl : Aside0 (w0.heap.size ≤ bt) := ⟨by rw [← hbt]; exact HZ2.out⟩
                    have HZ3 : Aside0 (w0.heap.size ≤ w3.heap.size) := ⟨Nat.le_trans HZ2.out hB3.size⟩
                    have HS3 := Aside0.mk (HS2.out.below hB3)
                    have HW3 := Aside0.mk (HW2.out.trans (hB3.mono HW2.out.size))
                    have HN3 : Aside0 (w3.ownsRow w.heap.size 9 1 (.slice (some ⟨b1, 0, none⟩) (i + 1) cap1) (i + 1) (ns ++ [.string nw])) := ⟨own_keep HN2.out (Mod.of_below (S := fun _ => False) hB3) (fun _ _ q => q)⟩
                    have HT3 : Aside0 (w3.ownsRow w.heap.size 49 3 u6 i es) := ⟨own_keep HT2.out (Mod.of_below (S := fun _ => False) hB3) (fun _ _ q => q)⟩
                    have HE3 := Aside0.mk (Els_move HE2.out (fun k hk => hB3.block k (Nat.lt_of_lt_of_le (hS k hk) HW2.out.size)) (fun _ h => h))
                    try rw [hw3]
                    try rw [hbt]
                    clear hw3 hB3 hbt
                    refine hK.out _ _ ⟨HS3.out, HW3.out⟩ (fun _ => ?_)
                    clear hK K
                    try simp only [Act.put, List.setIfInBounds_toArray, List.set_cons_zero, List.set_cons_succ]
                    refine plan_fi (fun K hK => ?_)
                    refine ap_at (w0 := w) w3 w.heap.size (.tmp 53) (.tmp 58) 47 49 (.agg #[.string ⟨#[]⟩, .bool false, .slice none 0 0]) 3 48 u6 i es [.string tw, .bool tl, .slice ta tk tc] ⟨bt, 0, none⟩ 1 (fun j u hu => by rw [add0]; exact HC3.out.cell j u hu) (by rfl) rfl Tryz.underlying47 infoSexpB rfl (by decide) (by decide) (by rfl) (by simp [Act.eval]) rfl (by simp [Value.oneCell']) HT3.out HW3.out HW3.out.size (by omega) ?_
                    intro v2 w4 hown2 hB2 hg2 _
                    obtain ⟨b2, cap2, l2, rfl, _, _, _, _, _⟩ := own_row hown2 (by omega)
                    have HTF := Aside0.mk hown2
                    have HWF := Aside0.mk hB2
                    have HNF : Aside0 (w4.ownsRow w.heap.size 9 1 (.slice (some ⟨b1, 0, none⟩) (i + 1) cap1) (i + 1) (ns ++ [.string nw])) := ⟨HN3.out.kept hg2 (own_type_ne HN3.out HT3.out (by decide))⟩
                    have HEF : Aside0 (Els w4 S ((ps ++ [(nw, t)]).map (·.2)) (es ++ [.string tw, .bool tl, .slice ta tk tc])) := ⟨by
                      rw [List.map_append]
                      exact Els_snoc (Els_move HE3.out (fun k hk => hg2.block k (Nat.lt_of_lt_of_le (hS k hk) HW3.out.size) (fun q => by have := own_base_le HT3.out k q.symm; have := hS k hk; omega)) (fun _ h => h)) (RT_move (fun k hk => hB2.block k (hS k hk)) (fun _ h => h) _ _ HRT.out)⟩
                    clear hown2 hB2 hg2
                    refine hK.out _ _ ?_
                    clear hK K
                    try simp only [Act.put, List.setIfInBounds_toArray, List.set_cons_zero, List.set_cons_succ]
                    repeat (first | (refine' plan_pu _ (by rfl) (fun w' => ?_) ?_; rotate_left 1; (focus (go_simp; try (with_reducible rfl))); simp only [Act.put, List.setIfInBounds_toArray, List.set_cons_zero, List.set_cons_succ]))
                    refine plan_nil ?_
                    clear HS3 HN3 HT3
                    go_wp2_with fail
                    go_roundw
                    case rel => exact ⟨i + 1, ps ++ [(nw, t)], _, by omega, by go_num, HBA, ⟨by rw [List.length_append, HPL.out]; rfl⟩, ⟨by rw [List.map_append, HNS.out]; exact HNF.out⟩, HTF, HEF, ⟨HPZ.out⟩, HWF⟩
                    case measure => simp [intOf]; omega
                  · go_simp
                    obtain ⟨w2, hw2⟩ : ∃ wx, w1.alloc (.cells #[.string tw, .bool tl, .slice ta tk tc] 49) = wx := ⟨_, rfl⟩
                    have hB2 : Below w1.heap.size w1 w2 := by rw [← hw2]; exact (Below.refl _ w1).alloc (Nat.le_refl _) _
                    obtain ⟨bt, hbt⟩ : ∃ b, w1.heap.size = b := ⟨_, rfl⟩
                    have HC2 : Aside0 (Cells w2 bt 49 [.string tw, .bool tl, .slice ta tk tc]) := ⟨by rw [← hw2, ← hbt]; exact Cells.new w1 _ _⟩
                    have HSZ2 : Aside0 (w1.heap.size ≤ w2.heap.size) := ⟨hB2.size⟩
                    have Hbtl : Aside0 (w0.heap.size ≤ bt) := ⟨by rw [← hbt]; exact HZ1.out⟩
                    have HZ2 : Aside0 (w0.heap.size ≤ w2.heap.size) := ⟨Nat.le_trans HZ1.out hB2.size⟩
                    have HA2 := Aside0.mk (HA1.out.below hB2)
                    have HS2 := Aside0.mk (HS1.out.below hB2)
                    have HW2 := Aside0.mk (HW1.out.trans (hB2.mono HW1.out.size))
                    have HN2 : Aside0 (w2.ownsRow w.heap.size 9 1 u5 i ns) := ⟨own_keep HN1.out (Mod.of_below (S := fun _ => False) hB2) (fun _ _ q => q)⟩
                    have HT2 : Aside0 (w2.ownsRow w.heap.size 49 3 u6 i es) := ⟨own_keep HT1.out (Mod.of_below (S := fun _ => False) hB2) (fun _ _ q => q)⟩
                    have HE2 := Aside0.mk (Els_move HE1.out (fun k hk => hB2.block k (Nat.lt_of_lt_of_le (hS k hk) HW1.out.size)) (fun _ h => h))
                    try rw [hw2]
                    try rw [hbt]
                    clear hw2 hB2 hbt
                    refine hK.out _ _ ⟨HS2.out, HW2.out⟩ (fun _ => ?_)
                    clear hK K
                    try simp only [Act.put, List.setIfInBounds_toArray, List.set_cons_zero, List.set_cons_succ]
                    refine plan_on [(2, 7), (3, 14), (0, 15), (0, 16)] (by kernel_rfl) (fun _ _ d _ _ h => by cases d <;> exact h) ⟨HS2.out, HW2.out⟩ ?_
                    simp only [planOps, List.filterMap_cons, List.filterMap_nil, List.getElem?_toArray, List.getElem?_cons_zero, List.getElem?_cons_succ, Option.map_some]
                    refine plan_ef (fun K hK => ?_)
                    refine ap_at (w0 := w) w2 w.heap.size (.tmp 45) (.tmp 51) 72 9 (.string ⟨#[]⟩) 1 16 u5 i ns [.string nw] ⟨bn, 0, none⟩ 1 (fun j u hu => by rw [add0]; exact HA2.out.cell j u hu) (by rfl) rfl Tryz.underlying72 infoStrB rfl (by decide) (by decide) (by rfl) (by simp [Act.eval]) rfl (by simp [Value.oneCell']) HN2.out HW2.out HW2.out.size (by omega) ?_
                    intro v1 w3 hown1 hB1 hg1 _
                    obtain ⟨b1, cap1, l1, rfl, _, _, _, _, _⟩ := own_row hown1 (by omega)
                    have hlt1 : ∀ k, u5.ownBlock = some k → k < w0.heap.size := own_lt_size HN0.out
                    have HN3 := Aside0.mk hown1
                    have HW3 := Aside0.mk hB1
                    have HZ3 : Aside0 (w0.heap.size ≤ w3.heap.size) := ⟨Nat.le_trans HZ2.out hg1.size⟩
                    have HS3 := Aside0.mk (HS2.out.grown hg1 (own_ne_cells HN2.out HS2.out (by decide)))
                    have HT3 : Aside0 (w3.ownsRow w.heap.size 49 3 u6 i es) := ⟨HT2.out.kept hg1 (own_type_ne HT2.out HN2.out (by decide))⟩
                    have HE3 := Aside0.mk (Els_move HE2.out (fun k hk => hg1.block k (Nat.lt_of_lt_of_le (hS k hk) HW2.out.size) (fun q => by have := own_base_le HN2.out k q.symm; have := hS k hk; omega)) (fun _ h => h))
                    have HC3 := Aside0.mk (HC2.out.grown hg1 (fun q => by have := hlt1 _ q; have := Hbtl.out; omega))
                    clear hown1 hB1 hg1 hlt1
                    refine hK.out _ _ ⟨HS3.out, HW3.out⟩ (fun _ => ?_)
                    clear hK K
                    try simp only [Act.put, List.setIfInBounds_toArray, List.set_cons_zero, List.set_cons_succ]
                    refine plan_fi (fun K hK => ?_)
                    refine ap_at (w0 := w) w3 w.heap.size (.tmp 53) (.tmp 58) 47 49 (.agg #[.string ⟨#[]⟩, .bool false, .slice none 0 0]) 3 48 u6 i es [.string tw, .bool tl, .slice ta tk tc] ⟨bt, 0, none⟩ 1 (fun j u hu => by rw [add0]; exact HC3.out.cell j u hu) (by rfl) rfl Tryz.underlying47 infoSexpB rfl (by decide) (by decide) (by rfl) (by simp [Act.eval]) rfl (by simp [Value.oneCell']) HT3.out HW3.out HW3.out.size (by omega) ?_
                    intro v2 w4 hown2 hB2 hg2 _
                    obtain ⟨b2, cap2, l2, rfl, _, _, _, _, _⟩ := own_row hown2 (by omega)
                    have HTF := Aside0.mk hown2
                    have HWF := Aside0.mk hB2
                    have HNF : Aside0 (w4.ownsRow w.heap.size 9 1 (.slice (some ⟨b1, 0, none⟩) (i + 1) cap1) (i + 1) (ns ++ [.string nw])) := ⟨HN3.out.kept hg2 (own_type_ne HN3.out HT3.out (by decide))⟩
                    have HEF : Aside0 (Els w4 S ((ps ++ [(nw, t)]).map (·.2)) (es ++ [.string tw, .bool tl, .slice ta tk tc])) := ⟨by
                      rw [List.map_append]
                      exact Els_snoc (Els_move HE3.out (fun k hk => hg2.block k (Nat.lt_of_lt_of_le (hS k hk) HW3.out.size) (fun q => by have := own_base_le HT3.out k q.symm; have := hS k hk; omega)) (fun _ h => h)) (RT_move (fun k hk => hB2.block k (hS k hk)) (fun _ h => h) _ _ HRT.out)⟩
                    clear hown2 hB2 hg2
                    refine hK.out _ _ ?_
                    clear hK K
                    try simp only [Act.put, List.setIfInBounds_toArray, List.set_cons_zero, List.set_cons_succ]
                    repeat (first | (refine' plan_pu _ (by rfl) (fun w' => ?_) ?_; rotate_left 1; (focus (go_simp; try (with_reducible rfl))); simp only [Act.put, List.setIfInBounds_toArray, List.set_cons_zero, List.set_cons_succ]))
                    refine plan_nil ?_
                    clear HS3 HN3 HT3
                    go_wp2_with fail
                    go_roundw
                    case rel => exact ⟨i + 1, ps ++ [(nw, t)], _, by omega, by go_num, HBA, ⟨by rw [List.length_append, HPL.out]; rfl⟩, ⟨by rw [List.map_append, HNS.out]; exact HNF.out⟩, HTF, HEF, ⟨HPZ.out⟩, HWF⟩
                    case measure => simp [intOf]; omega
                · go_simp
                  obtain ⟨w1, hw1⟩ : ∃ wx, w0.alloc (.cells #[.string tw, .bool tl, .slice ta tk tc] 49) = wx := ⟨_, rfl⟩
                  have hB1 : Below w0.heap.size w0 w1 := by rw [← hw1]; exact (Below.refl _ w0).alloc (Nat.le_refl _) _
                  obtain ⟨bt, hbt⟩ : ∃ b, w0.heap.size = b := ⟨_, rfl⟩
                  have HC1 : Aside0 (Cells w1 bt 49 [.string tw, .bool tl, .slice ta tk tc]) := ⟨by rw [← hw1, ← hbt]; exact Cells.new w0 _ _⟩
                  have HSZ1 : Aside0 (w0.heap.size ≤ w1.heap.size) := ⟨hB1.size⟩
                  have Hbtl : Aside0 (w0.heap.size ≤ bt) := ⟨by rw [← hbt]; exact HZ0.out⟩
                  have HZ1 : Aside0 (w0.heap.size ≤ w1.heap.size) := ⟨Nat.le_trans HZ0.out hB1.size⟩
                  have HS1 := Aside0.mk (HS0.out.below hB1)
                  have HW1 := Aside0.mk (HW0.out.trans (hB1.mono HW0.out.size))
                  have HN1 : Aside0 (w1.ownsRow w.heap.size 9 1 u5 i ns) := ⟨own_keep HN0.out (Mod.of_below (S := fun _ => False) hB1) (fun _ _ q => q)⟩
                  have HT1 : Aside0 (w1.ownsRow w.heap.size 49 3 u6 i es) := ⟨own_keep HT0.out (Mod.of_below (S := fun _ => False) hB1) (fun _ _ q => q)⟩
                  have HE1 := Aside0.mk (Els_move HE0.out (fun k hk => hB1.block k (Nat.lt_of_lt_of_le (hS k hk) HW0.out.size)) (fun _ h => h))
                  try rw [hw1]
                  try rw [hbt]
                  clear hw1 hB1 hbt
                  refine hK.out _ _ ⟨HS1.out, HW1.out⟩ (fun _ => ?_)
                  clear hK K
                  try simp only [Act.put, List.setIfInBounds_toArray, List.set_cons_zero, List.set_cons_succ]
                  refine plan_on [(2, 6), (2, 7), (3, 14), (0, 15), (0, 16)] (by kernel_rfl) (fun _ _ d _ _ h => by cases d <;> exact h) ⟨HS1.out, HW1.out⟩ ?_
                  simp only [planOps, List.filterMap_cons, List.filterMap_nil, List.getElem?_toArray, List.getElem?_cons_zero, List.getElem?_cons_succ, Option.map_some]
                  refine plan_ef (fun K hK => ?_)
                  go_simp
                  obtain ⟨w2, hw2⟩ : ∃ wx, w1.alloc (.cells #[.string nw] 9) = wx := ⟨_, rfl⟩
                  have hB2 : Below w1.heap.size w1 w2 := by rw [← hw2]; exact (Below.refl _ w1).alloc (Nat.le_refl _) _
                  obtain ⟨bn, hbn⟩ : ∃ b, w1.heap.size = b := ⟨_, rfl⟩
                  have HA2 : Aside0 (Cells w2 bn 9 [.string nw]) := ⟨by rw [← hw2, ← hbn]; exact Cells.new w1 _ _⟩
                  have HSZ2 : Aside0 (w1.heap.size ≤ w2.heap.size) := ⟨hB2.size⟩
                  have Hbnl : Aside0 (w0.heap.size ≤ bn) := ⟨by rw [← hbn]; exact HZ1.out⟩
                  have HZ2 : Aside0 (w0.heap.size ≤ w2.heap.size) := ⟨Nat.le_trans HZ1.out hB2.size⟩
                  have HC2 := Aside0.mk (HC1.out.below hB2)
                  have HS2 := Aside0.mk (HS1.out.below hB2)
                  have HW2 := Aside0.mk (HW1.out.trans (hB2.mono HW1.out.size))
                  have HN2 : Aside0 (w2.ownsRow w.heap.size 9 1 u5 i ns) := ⟨own_keep HN1.out (Mod.of_below (S := fun _ => False) hB2) (fun _ _ q => q)⟩
                  have HT2 : Aside0 (w2.ownsRow w.heap.size 49 3 u6 i es) := ⟨own_keep HT1.out (Mod.of_below (S := fun _ => False) hB2) (fun _ _ q => q)⟩
                  have HE2 := Aside0.mk (Els_move HE1.out (fun k hk => hB2.block k (Nat.lt_of_lt_of_le (hS k hk) HW1.out.size)) (fun _ h => h))
                  try rw [hw2]
                  try rw [hbn]
                  clear hw2 hB2 hbn
                  refine hK.out _ _ ⟨HS2.out, HW2.out⟩ (fun _ => ?_)
                  clear hK K
                  try simp only [Act.put, List.setIfInBounds_toArray, List.set_cons_zero, List.set_cons_succ]
                  refine plan_ef (fun K hK => ?_)
                  refine ap_at (w0 := w) w2 w.heap.size (.tmp 45) (.tmp 51) 72 9 (.string ⟨#[]⟩) 1 16 u5 i ns [.string nw] ⟨bn, 0, none⟩ 1 (fun j u hu => by rw [add0]; exact HA2.out.cell j u hu) (by rfl) rfl Tryz.underlying72 infoStrB rfl (by decide) (by decide) (by rfl) (by simp [Act.eval]) rfl (by simp [Value.oneCell']) HN2.out HW2.out HW2.out.size (by omega) ?_
                  intro v1 w3 hown1 hB1 hg1 _
                  obtain ⟨b1, cap1, l1, rfl, _, _, _, _, _⟩ := own_row hown1 (by omega)
                  have hlt1 : ∀ k, u5.ownBlock = some k → k < w0.heap.size := own_lt_size HN0.out
                  have HN3 := Aside0.mk hown1
                  have HW3 := Aside0.mk hB1
                  have HZ3 : Aside0 (w0.heap.size ≤ w3.heap.size) := ⟨Nat.le_trans HZ2.out hg1.size⟩
                  have HS3 := Aside0.mk (HS2.out.grown hg1 (own_ne_cells HN2.out HS2.out (by decide)))
                  have HT3 : Aside0 (w3.ownsRow w.heap.size 49 3 u6 i es) := ⟨HT2.out.kept hg1 (own_type_ne HT2.out HN2.out (by decide))⟩
                  have HE3 := Aside0.mk (Els_move HE2.out (fun k hk => hg1.block k (Nat.lt_of_lt_of_le (hS k hk) HW2.out.size) (fun q => by have := own_base_le HN2.out k q.symm; have := hS k hk; omega)) (fun _ h => h))
                  have HC3 := Aside0.mk (HC2.out.grown hg1 (fun q => by have := hlt1 _ q; have := Hbtl.out; omega))
                  clear hown1 hB1 hg1 hlt1
                  refine hK.out _ _ ⟨HS3.out, HW3.out⟩ (fun _ => ?_)
                  clear hK K
                  try simp only [Act.put, List.setIfInBounds_toArray, List.set_cons_zero, List.set_cons_succ]
                  refine plan_fi (fun K hK => ?_)
                  refine ap_at (w0 := w) w3 w.heap.size (.tmp 53) (.tmp 58) 47 49 (.agg #[.string ⟨#[]⟩, .bool false, .slice none 0 0]) 3 48 u6 i es [.string tw, .bool tl, .slice ta tk tc] ⟨bt, 0, none⟩ 1 (fun j u hu => by rw [add0]; exact HC3.out.cell j u hu) (by rfl) rfl Tryz.underlying47 infoSexpB rfl (by decide) (by decide) (by rfl) (by simp [Act.eval]) rfl (by simp [Value.oneCell']) HT3.out HW3.out HW3.out.size (by omega) ?_
                  intro v2 w4 hown2 hB2 hg2 _
                  obtain ⟨b2, cap2, l2, rfl, _, _, _, _, _⟩ := own_row hown2 (by omega)
                  have HTF := Aside0.mk hown2
                  have HWF := Aside0.mk hB2
                  have HNF : Aside0 (w4.ownsRow w.heap.size 9 1 (.slice (some ⟨b1, 0, none⟩) (i + 1) cap1) (i + 1) (ns ++ [.string nw])) := ⟨HN3.out.kept hg2 (own_type_ne HN3.out HT3.out (by decide))⟩
                  have HEF : Aside0 (Els w4 S ((ps ++ [(nw, t)]).map (·.2)) (es ++ [.string tw, .bool tl, .slice ta tk tc])) := ⟨by
                    rw [List.map_append]
                    exact Els_snoc (Els_move HE3.out (fun k hk => hg2.block k (Nat.lt_of_lt_of_le (hS k hk) HW3.out.size) (fun q => by have := own_base_le HT3.out k q.symm; have := hS k hk; omega)) (fun _ h => h)) (RT_move (fun k hk => hB2.block k (hS k hk)) (fun _ h => h) _ _ HRT.out)⟩
                  clear hown2 hB2 hg2
                  refine hK.out _ _ ?_
                  clear hK K
                  try simp only [Act.put, List.setIfInBounds_toArray, List.set_cons_zero, List.set_cons_succ]
                  repeat (first | (refine' plan_pu _ (by rfl) (fun w' => ?_) ?_; rotate_left 1; (focus (go_simp; try (with_reducible rfl))); simp only [Act.put, List.setIfInBounds_toArray, List.set_cons_zero, List.set_cons_succ]))
                  refine plan_nil ?_
                  clear HS2 HS3 HN2 HN3 HT2 HT3
                  go_wp2_with fail
                  go_roundw
                  case rel => exact ⟨i + 1, ps ++ [(nw, t)], _, by omega, by go_num, HBA, ⟨by rw [List.length_append, HPL.out]; rfl⟩, ⟨by rw [List.map_append, HNS.out]; exact HNF.out⟩, HTF, HEF, ⟨HPZ.out⟩, HWF⟩
                  case measure => simp [intOf]; omega
            · have z4 : ¬ (yk : Int) = 2 := by omega
              have HF : Aside0 (O = .inl 54) := ⟨HBAD.out (by
                unfold bindOne
                split
                · next q => rw [q] at HYK; exact absurd HYK.out.symm hy2
                · rfl)⟩
              clear hy2
              go_wp2_with fail
              go_returns
              exact BPost.bad HF.out (by decide) HB0.out
        · have hall : i = N := by omega
          subst hall
          have hba : bindAll x.kids = some ps := by
            have := HBA.out
            rw [← AN.out, List.take_length] at this
            exact this
          have HO2 : Aside0 (O = if (ps.all fun p => nameB p.1.data.toList) = false then .inl 50 else if twiceV (ps.map (·.1)) = true then .inl 52 else .inr ps) := ⟨by
            rw [← AO.out]
            unfold bindingsV
            rw [if_neg (fun q => q.elim (fun q => by rw [HXL.out] at q; cases q) HKE.out), hba]⟩
          have hpos : 0 < i := Nat.pos_of_ne_zero (fun q => by rw [q] at z0; cases z0)
          obtain ⟨b5, c5, l5, rfl, hC5, hb5, hc5, htk5, _⟩ := own_row HN.out hpos
          obtain ⟨b6, c6, l6, rfl, hC6, hb6, hc6, _, hcm6⟩ := own_row HT.out hpos
          have HL5 : Aside0 (∀ (j : Nat) (p : ByteArray × Sx), ps[j]? = some p → l5[j]? = some (.string p.1)) := ⟨fun j p hj => by
            have h1 : (l5.take (i * 1))[j]? = some (.string p.1) := by rw [htk5, List.getElem?_map, hj]; rfl
            rw [List.getElem?_take] at h1
            split at h1
            · exact h1
            · cases h1⟩
          have HPO := Aside0.mk hpos
          have HC5 := Aside0.mk hC5
          have HB5 := Aside0.mk hb5
          have HB6 := Aside0.mk hb6
          have HCM := Aside0.mk (show i ≤ c5 ∧ i ≤ c6 ∧ c6 ≤ 9223372036854775807 from ⟨hc5, hc6, hcm6⟩)
          have i1 : (i : Int) ≤ (i : Int) := by omega
          clear hba hpos hC5 hC6 hb5 hb6 hc5 hc6 htk5 hcm6 HN HBA hlt hi
          have hmm := @run_makeMap Tryz.prog
          have hD0 := World.ownsMap_made (H := Unit) wr Tryz.prog 9 (plainElem Tryz.prog 3)
          have hB0 := HW.out.alloc HW.out.size (.map #[] 0)
          have hC50 := HC5.out.alloc (.map #[] 0)
          have hT0 := HT.out.alloc (.map #[] 0)
          have hb5l := HC5.out.lt
          have hE0 : Els (wr.alloc (.map #[] 0)) S (ps.map (·.2)) es := Els_move HE.out (fun k hk => (Below.heap_alloc _ _ _ (Nat.lt_of_lt_of_le (hS k hk) HW.out.size))) (fun _ h => h)
          obtain ⟨w2, hw2⟩ : ∃ w2, wr.alloc (.map #[] 0) = w2 := ⟨_, rfl⟩
          go_wp2_with fail
          rw [hw2] at hD0 hB0 hC50 hT0 hE0
          try rw [hw2]
          obtain ⟨mb, hmb⟩ : ∃ mb, wr.heap.size = mb := ⟨_, rfl⟩
          rw [hmb] at hD0 hb5l
          have hmbw : w.heap.size ≤ mb := by rw [← hmb]; exact HW.out.size
          have h6l : ∀ k, (Value.slice (some ⟨b6, 0, none⟩) i c6).ownBlock = some k → k < mb := fun k hk => by rw [← hmb]; exact own_lt_size HT.out k hk
          try rw [hmb]
          have HD0 := Aside0.mk hD0
          have HB0 := Aside0.mk hB0
          have HC50 := Aside0.mk hC50
          have HT0 := Aside0.mk hT0
          have HE0 := Aside0.mk hE0
          have H5L := Aside0.mk hb5l
          have H6L := Aside0.mk h6l
          have HMB := Aside0.mk hmbw
          clear hD0 hB0 hC50 hT0 hE0 hb5l h6l hmbw hw2 hmb hmm HC5 HT HE
          have HBQ : Aside0 (∀ wq, Mod (fun k => k = mb) w2 wq → Below w.heap.size w wq) := ⟨fun wq hm => HB0.out.trans (hm.belowB (fun k q => by rw [q]; exact HMB.out) HB0.out.size)⟩
          go_loopw [10, 12, 64] (fun v10 v12 v64 wq => ∃ (j : Nat) (tb : Bool) (D : DataW Unit), j ≤ i ∧ v64 = .int .i64 (j : Int) ∧ v10 = .bool tb ∧ Aside0 (tb = twiceV ((ps.take j).map (·.1))) ∧ Aside0 (gmap 9 wq mb j D) ∧ Aside0 (CntOk D ((ps.take j).map (·.1))) ∧ Aside0 (∀ p ∈ ps.take j, nameB p.1.data.toList = true) ∧ Aside0 (Mod (fun k => k = mb) w2 wq)) (fun _ _ v64 _ => i - (intOf v64).toNat)
          case atStart => exact ⟨0, false, _, by omega, rfl, rfl, ⟨rfl⟩, HD0, ⟨CntOk.nil⟩, ⟨fun p hp => by cases hp⟩, ⟨Mod.refl _ _⟩⟩
          case round =>
            obtain ⟨j, tb, D, hj, rfl, rfl, HTW, HD, HCN, HNM, HM⟩ := hrel
            by_cases hlt : j < i
            · have j0 : (0 : Int) ≤ (j : Int) := by omega
              have j1 : (j : Int) < (i : Int) := by omega
              obtain ⟨p, hp⟩ : ∃ p, ps[j]? = some p := ⟨_, List.getElem?_eq_getElem (by rw [HPL.out]; exact hlt)⟩
              have htk : ps.take (j + 1) = ps.take j ++ [p] := by rw [List.take_add_one, hp]; rfl
              have hC5q := HC50.out.keep HM.out (by have := H5L.out; omega)
              have q0 := hC5q.cell j _ (HL5.out j p hp)
              have hpz : p.1.size ≤ maxLen := HPZ.out p (List.mem_of_getElem? hp)
              obtain ⟨nm, hnm⟩ : ∃ nm, p.1 = nm := ⟨_, rfl⟩
              rw [hnm] at q0 hpz
              have hkey := WideMaps.keyOf_string_mk (P := Tryz.prog) Tryz.underlying9 hpz
              have HKEY := Aside0.mk hkey
              have HPP := Aside0.mk (List.mem_of_getElem? hp)
              have HTK := Aside0.mk htk
              have HNMP := Aside0.mk hnm
              obtain ⟨C, hC⟩ : ∃ C, cntV nm ((ps.take j).map (·.1)) = C := ⟨_, rfl⟩
              have hCl : C ≤ i := by
                have h1 := cnt_le nm ((ps.take j).map (·.1))
                rw [hC, List.length_map, List.length_take] at h1
                omega
              have hat0 := HCN.out nm hpz
              rw [hC] at hat0
              have HAT0 := Aside0.mk hat0
              have HCC := Aside0.mk hC
              have hC2 : (C : Int) ≤ 2932031007317 := by omega
              have hC3 : (0 : Int) ≤ (C : Int) := by omega
              clear htk hp hC5q hkey hnm hat0 hC
              go_wp2_with fail
              refine (readName_any nm _ (by unfold maxLen at hpz; omega)).mono ?_
              rintro e w3 ⟨rfl, hB3⟩
              have HM3 := Aside0.mk (HM.out.trans (Mod.of_below hB3))
              have HD3 : Aside0 (gmap 9 w3 mb j D) := ⟨gmap_heap HD.out (hB3.block mb HD.out.lt)⟩
              obtain ⟨nb, hnb⟩ : ∃ nb, nameB nm.data.toList = nb := ⟨_, rfl⟩
              rw [hnb]
              have HNB := Aside0.mk hnb
              clear hB3 hnb q0
              cases nb with
              | false =>
                have HF : Aside0 (O = .inl 50) := ⟨by
                  rw [HO2.out, if_pos]
                  rw [List.all_eq_false]
                  exact ⟨p, HPP.out, by rw [HNMP.out, HNB.out]; simp⟩⟩
                go_wp2_with fail
                go_returns
                exact BPost.bad HF.out (by decide) (HBQ.out _ HM3.out)
              | true =>
                have hjm : j < maxLen := by unfold maxLen; omega
                go_upto_region 20 with (first
                  | (at_lookup; refine wpList_lookup_own_int _ rfl _ _ 121 rfl 9 3 .i64 strLaw Tryz.underlying121 Tryz.underlying3 (Tryz.zeroInt _) mb j D rfl HD3.out _ _ rfl HKEY.out ?_; intro c hat hwc; obtain rfl : c = (C : Int) := (by have := hat.symm.trans HAT0.out; simpa using this); clear hat hwc)
                  | (at_mapUpdate; refine wpList_mapUpdate_own _ rfl _ _ _ 121 rfl 9 3 strLaw Tryz.underlying121 _ mb j D rfl HD3.out hjm _ _ _ rfl rfl HKEY.out _ [] (plainElem_int Tryz.underlying3 (WalkArith.wf_i64 (by omega))) ?_; intro w4 hown4 hgr4))
                have hm4 : Mod (fun k => k = mb) w3 w4 := (Mod.refl _ _).grown hgr4 (fun k hk => .inl (by simpa using hk.symm))
                have HM4 := Aside0.mk (HM3.out.trans hm4)
                have hcn := HCN.out.put HD3.out.isMap nm
                rw [HCC.out, show (((C + 1 : Nat)) : Int) = (C : Int) + 1 by omega] at hcn
                have hmap : (ps.take (j + 1)).map (·.1) = (ps.take j).map (·.1) ++ [nm] := by rw [HTK.out, List.map_append, ← HNMP.out]; rfl
                have HTW2 : Aside0 (twiceV ((ps.take (j + 1)).map (·.1)) = (tb || decide (0 < C))) := ⟨by rw [hmap, twice_snoc, ← HTW.out, HCC.out]⟩
                rw [← hmap] at hcn
                have HCN4 := Aside0.mk hcn
                have HD4 : Aside0 (gmap 9 w4 mb (j + 1) _) := ⟨hown4⟩
                have HAT4 : Aside0 ((D.put (.string nm.data.toList) (.lit (.int .i64 ((C : Int) + 1)))).atKey (.string nm.data.toList) (.lit (.int .i64 0)) = .lit (.int .i64 ((C : Int) + 1))) := ⟨Maps.atKey_put_same HD3.out.isMap (show WideAt.IsKeyLit (Lit.string nm.data.toList) from trivial) _ _⟩
                have HNM4 : Aside0 (∀ q ∈ ps.take (j + 1), nameB q.1.data.toList = true) := ⟨fun q hq => by
                  rw [HTK.out] at hq
                  rcases List.mem_append.1 hq with h | h
                  · exact HNM.out q h
                  · rw [List.mem_singleton] at h; subst h; rw [HNMP.out, HNB.out]⟩
                clear hm4 hcn hmap hown4 hgr4
                cases tb with
                | true =>
                  go_wp2_with fail
                  go_roundw
                  case rel => exact ⟨j + 1, true, _, by omega, by go_num, rfl, ⟨by rw [HTW2.out]; rfl⟩, HD4, HCN4, HNM4, HM4⟩
                  case measure => simp [intOf]; omega
                | false =>
                  by_cases hC0 : 0 < C
                  · have c1 : (1 : Int) < (C : Int) + 1 := by omega
                    have HTB : Aside0 (true = twiceV ((ps.take (j + 1)).map (·.1))) := ⟨by rw [HTW2.out, decide_eq_true hC0]; rfl⟩
                    clear hC0
                    obtain ⟨c, hrun, hat, _⟩ := HD4.out.lookup_int strLaw Tryz.underlying121 Tryz.underlying3 (Tryz.zeroInt _) HKEY.out
                    obtain rfl : c = (C : Int) + 1 := (by have := hat.symm.trans HAT4.out; simpa using this)
                    clear hat
                    go_wp2_with fail
                    go_roundw
                    case rel => exact ⟨j + 1, true, _, by omega, by go_num, rfl, HTB, HD4, HCN4, HNM4, HM4⟩
                    case measure => simp [intOf]; omega
                  · have c1 : ¬ (1 : Int) < (C : Int) + 1 := by omega
                    have HTB : Aside0 (false = twiceV ((ps.take (j + 1)).map (·.1))) := ⟨by rw [HTW2.out, decide_eq_false hC0]; rfl⟩
                    clear hC0
                    obtain ⟨c, hrun, hat, _⟩ := HD4.out.lookup_int strLaw Tryz.underlying121 Tryz.underlying3 (Tryz.zeroInt _) HKEY.out
                    obtain rfl : c = (C : Int) + 1 := (by have := hat.symm.trans HAT4.out; simpa using this)
                    clear hat
                    go_wp2_with fail
                    go_roundw
                    case rel => exact ⟨j + 1, false, _, by omega, by go_num, rfl, HTB, HD4, HCN4, HNM4, HM4⟩
                    case measure => simp [intOf]; omega
            · have hall : j = i := by omega
              have htk : ps.take j = ps := by rw [hall, ← HPL.out, List.take_length]
              have j1 : ¬ (j : Int) < (i : Int) := by omega
              have htw := HTW.out
              have hnm := HNM.out
              rw [htk] at htw hnm
              have HAL : Aside0 ((ps.all fun p => nameB p.1.data.toList) = true) := ⟨List.all_eq_true.2 hnm⟩
              have HTW2 := Aside0.mk htw
              clear htk htw hnm hall
              cases tb with
              | true =>
                have HF : Aside0 (O = .inl 52) := ⟨by rw [HO2.out, if_neg (by rw [HAL.out]; simp), if_pos HTW2.out.symm]⟩
                go_wp2_with fail
                go_returns
                exact BPost.bad HF.out (by decide) (HBQ.out _ HM.out)
              | false =>
                have HF : Aside0 (O = .inr ps) := ⟨by rw [HO2.out, if_neg (by rw [HAL.out]; simp), if_neg (by rw [← HTW2.out]; simp)]⟩
                go_wp2_with fail
                go_returns
                refine ⟨HBQ.out _ HM.out, .slice (some ⟨b5, 0, none⟩) i c5, .slice (some ⟨b6, 0, none⟩) i c6, 0, rfl, ?_⟩
                rw [HF.out]
                refine ⟨rfl, ⟨some ⟨b5, 0, none⟩, c5, by rw [List.length_map, HPL.out], by rw [List.length_map, HPL.out]; exact HCM.out.1, fun s hs => ?_, fun _ => ⟨b5, l5, rfl, HB5.out, HC50.out.keep HM.out (by have := H5L.out; omega), fun q s hq => ?_⟩⟩, ⟨some ⟨b6, 0, none⟩, c6, by rw [List.length_map, HPL.out], by rw [List.length_map, HPL.out]; exact HCM.out.2.1, HCM.out.2.2, ?_⟩⟩
                · obtain ⟨p, hp, rfl⟩ := List.mem_map.1 hs
                  exact HPZ.out p hp
                · rw [List.getElem?_map] at hq
                  obtain ⟨p, hp, rfl⟩ := Option.map_eq_some_iff.1 hq
                  exact HL5.out q p hp
                · have hT := own_keep HT0.out HM.out (fun k hk q => by have := H6L.out k hk; omega)
                  refine RL_own hT (by rw [List.length_map, HPL.out]) (Els_move HE0.out (fun k hk => HM.out.keep k (Nat.lt_of_lt_of_le (hS k hk) HB0.out.size) (fun q => by have := hS k hk; have := HMB.out; omega)) (fun _ h => h)) (fun k hk => .inl hk) (fun k hk => .inr ⟨own_base_le hT k hk, own_cells hT k hk⟩)
end Go.Proofs.YthhnhbpmpdminaaGreatDoor
