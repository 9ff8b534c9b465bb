/-
One step of the reader: an opening bracket. Conditions: the lists' lengths.
-/
import Derived.Test.YtdhfjaekhibaaaaDoorCls
namespace Go.Proofs.YtdhfjaekhibaaaaDoor
set_option maxRecDepth 4096
open Go.RowKit Go.Proofs.YtdhfjaekhibaaaaDoorW.PrintWords Go.Proofs.YtdhfjaekhibaaaaDoorW.PrintLast

set_option maxHeartbeats 1000000 in
theorem open_deep (base g : Nat) (s : ByteArray) (i : Nat) (Ls : List (List Sx)) (bs : List Nat) (S : Nat → Nat → Prop) (w : World)
    (h : RS w base g s i Ls bs S) (hd : bs.length = 200) (hbase : base ≤ w.heap.size) :
    Calls Tryd.prog 26 #[.pointer (some ⟨g, 0, none⟩), .int .u8 40] w fun e w' => (∃ v, e = .returned v ∧ ErrV w' v i 23) ∧ Below base w w' := by
  obtain ⟨vo, vb, vs, hg, hgb, hst, hbs⟩ := h
  obtain ⟨A, c, rfl⟩ : ∃ A c, vb = .slice A 200 c := by
    rw [hd] at hbs
    rcases hbs.2 with ⟨h, h0⟩ | ⟨g', cap, cur, h, _⟩
    · omega
    · exact ⟨_, _, h⟩
  have h1 := hg.cell 1 _ rfl
  have h3 := hg.cell 3 _ rfl
  clear hst hbs hd
  go_enter Tryd.func26, Tryd.ntmps26
  go_wp2_with fail
  refine (blank_any.calls 40 _).mono ?_
  rintro e w1 ⟨rfl, n1, rfl⟩
  rw [show blankB 40 = false from rfl]
  go_wp2_with fail
  refine (wrong_any (i : Int) 23 _).mono ?_
  rintro e w3 ⟨rfl, rfl⟩
  go_wp2_with fail
  go_returns
  exact ⟨⟨_, rfl, _, rfl, Cells.new (w.drewN n1) _ _⟩, (pw_below_drewN (Below.refl _ _) n1).alloc hbase _⟩

theorem news_one {w : World} {g t : Nat} {u : Value} (h : Cells w g t [u]) : ∀ (j : Nat) (x : Value), [u][j]? = some x → w.cell? ((⟨g, 0, none⟩ : Addr).add j) = some x := by
  intro j x hx
  rw [add_plain]
  exact h.cell j x hx

/-- What both appends leave, stored. -/
theorem push_fin {base g : Nat} {s : ByteArray} {i : Nat} {Ls : List (List Sx)} {bs : List Nat} {S : Nat → Nat → Prop} {W w4 : World} {vo vb vo1 vb1 : Value} {vs : List Value}
    (hg : Cells W g 54 [.string s, .int .i64 (i : Int), vo, vb]) (hgb : base ≤ g) (hst : Stk W base vo Ls vs S) (hbs : W.ownsRow base 3 1 vb bs.length (numsN bs)) (hbase : base ≤ W.heap.size)
    (hm : Mod (fun k => vo.ownBlock = some k ∨ vb.ownBlock = some k) W w4)
    (ho : w4.ownsRow base 23 1 vo1 (Ls.length + 1) (vs ++ [.slice none 0 0])) (hb : w4.ownsRow base 3 1 vb1 (bs.length + 1) (numsN bs ++ [.int .i64 (i : Int)])) :
    (∃ S', RS ((w4.setCell ⟨g, 2, none⟩ vo1).setCell ⟨g, 3, none⟩ vb1) base g s i (Ls ++ [[]]) (bs ++ [i]) S') ∧ Below base W ((w4.setCell ⟨g, 2, none⟩ vo1).setCell ⟨g, 3, none⟩ vb1) := by
  have hD : ∀ k, (vo.ownBlock = some k ∨ vb.ownBlock = some k) → ∃ t l, Cells W k t l ∧ t ≠ 35 ∧ t ≠ 54 := by
    rintro k (hk | hk)
    · obtain ⟨l, hl⟩ := own_cells hst.row k hk
      exact ⟨_, l, hl, by decide, by decide⟩
    · obtain ⟨l, hl⟩ := own_cells hbs k hk
      exact ⟨_, l, hl, by decide, by decide⟩
  have hg4 : Cells w4 g 54 [.string s, .int .i64 (i : Int), vo, vb] := hg.keep hm (fun e => by
    obtain ⟨t, l, hl, _, ht⟩ := hD g e
    exact ht (hl.ty hg).1)
  have hst4 := hst.push ho hm (fun k hk => by obtain ⟨t, l, hl, ht, _⟩ := hD k hk; exact ⟨t, l, hl, ht⟩)
  have hm2 : Mod (fun k => k = g) w4 ((w4.setCell ⟨g, 2, none⟩ vo1).setCell ⟨g, 3, none⟩ vb1) := (Mod.setCell (p := ⟨g, 2, none⟩) (Mod.refl (fun k => k = g) w4) (.inl rfl) _).setCell (p := ⟨g, 3, none⟩) (.inl rfl) _
  refine ⟨⟨_, vo1, vb1, _, (hg4.set 2 vo1).set 3 vb1, hgb, hst4.keepT hm2 (fun k _ hk => ⟨_, _, hk ▸ hg4, by decide, by decide⟩), ?_⟩, (hm.belowB (fun k hk => ?_) hbase).trans (hm2.belowB (fun k hk => hk ▸ hgb) (Nat.le_trans hbase hm.size))⟩
  · have := own_keep hb hm2 (fun k hk e => own_ne_cells hb hg4 (by decide) (e ▸ hk))
    simpa [numsN] using this
  · rcases hk with hk | hk
    · exact own_base_le hst.row k hk
    · exact own_base_le hbs k hk

set_option maxHeartbeats 2000000 in
theorem open_some (base g : Nat) (s : ByteArray) (i : Nat) (Ls : List (List Sx)) (bs : List Nat) (S : Nat → Nat → Prop) (w : World)
    (h : RS w base g s i Ls bs S) (hd : bs.length < 200) (hi : i ≤ 100000) (hLs : Ls.length ≤ 1000) (hbase : base ≤ w.heap.size) :
    Calls Tryd.prog 26 #[.pointer (some ⟨g, 0, none⟩), .int .u8 40] w fun e w' => e = .returned .nilIface ∧ (∃ S', RS w' base g s (i + 1) (Ls ++ [[]]) (bs ++ [i]) S') ∧ Below base w w' := by
  obtain ⟨vo0, vb0, hg0, hgb0⟩ := h.cells
  have h10 := hg0.cell 1 _ rfl
  have HS := Aside0.mk h
  clear h
  go_enter Tryd.func26, Tryd.ntmps26
  go_wp2_with fail
  refine (blank_any.calls 40 _).mono ?_
  rintro e W ⟨rfl, n1, hW⟩
  rw [show blankB 40 = false from rfl]
  have h := HS.out.drewN n1
  have hB0 : Below base w W := hW ▸ pw_below_drewN (Below.refl _ _) n1
  rw [← hW] at h
  have hbaseW : base ≤ W.heap.size := Nat.le_trans hbase hB0.size
  clear hW HS hg0 hgb0 h10 hbase
  obtain ⟨vo, vb, vs, hg, hgb, hst, hbs⟩ := h
  obtain ⟨Ao, co, rfl⟩ : ∃ A c, vo = .slice A Ls.length c := by
    rcases hst.row.2 with ⟨h, h0⟩ | ⟨g', cap, cur, h, _⟩
    · exact ⟨none, 0, by rw [h0]; exact h⟩
    · exact ⟨_, _, h⟩
  obtain ⟨Ab, cb, rfl⟩ : ∃ A c, vb = .slice A bs.length c := by
    rcases hbs.2 with ⟨h, h0⟩ | ⟨g', cap, cur, h, _⟩
    · exact ⟨none, 0, by rw [h0]; exact h⟩
    · exact ⟨_, _, h⟩
  have h1 := hg.cell 1 _ rfl
  have h3 := hg.cell 3 _ rfl
  have hne : ((bs.length : Int) == 200) = false := by rw [beq_eq_false_iff_ne]; omega
  have AS := Aside0.mk hst
  have AB := Aside0.mk hbs
  have AG := Aside0.mk hg
  clear hst hbs
  go_wp2_with fail
  refine wp_planZ [(0, 0), (0, 1), (0, 2), (0, 3), (0, 4), (0, 8), (0, 9), (0, 10), (0, 12), (1, 5), (1, 11)] [17, 20]
    (fun w' => Cells w' g 54 [.string s, .int .i64 (i : Int), .slice Ao Ls.length co, .slice Ab bs.length cb])
    #[true, true, true, true, true, true, false, false, true, true, true, true, true, false, false, false, false, false, false, false, false] 10 (by kernel_rfl) (by kernel_rfl) (fun _ _ d _ _ h => by cases d <;> exact h) hg.drew ?_
  simp only [planOps, List.filterMap_cons, List.filterMap_nil, List.getElem?_toArray, List.getElem?_cons_zero, List.getElem?_cons_succ, Option.map_some]
  repeat (first
    | (refine' planZ_pu _ (by rfl) (fun w' => ?_) ?_; rotate_left 1; (focus (go_simp; try (with_reducible rfl))); simp only [Act.put, List.setIfInBounds_toArray, List.set_cons_zero, List.set_cons_succ])
    | (refine' planZ_ld _ (by rfl) (fun w' hSw => ?_) ?_; rotate_left 1; (focus ((try dsimp only at hSw); have c1 := hSw.cell 2 _ rfl; have c2 := hSw.cell 3 _ rfl; go_simp; try (with_reducible rfl))); simp only [Act.put, List.setIfInBounds_toArray, List.set_cons_zero, List.set_cons_succ]))
  refine planZ_nil ?_
  refine plan_two 6 13 (by simp only [List.getElem?_toArray, List.getElem?_cons_succ, List.getElem?_cons_zero]; rfl) (by simp only [List.getElem?_toArray, List.getElem?_cons_succ, List.getElem?_cons_zero]; rfl) (by kernel_rfl) (fun K hK => ?_) (fun K hK => ?_)
  · go_simp
    refine hK.out _ _ ((AG.out.alloc _).drew) (fun _ => ?_)
    clear hK K
    try simp only [Act.put, List.setIfInBounds_toArray, List.set_cons_zero, List.set_cons_succ]
    refine plan_two 7 13 (by simp only [List.getElem?_toArray, List.getElem?_cons_succ, List.getElem?_cons_zero]; rfl) (by simp only [List.getElem?_toArray, List.getElem?_cons_succ, List.getElem?_cons_zero]; rfl) (by kernel_rfl) (fun K hK => ?_) (fun K hK => ?_)
    · refine ap_at (w0 := W) _ base (.tmp 50) (.tmp 51) 51 23 (.slice none 0 0) 1 24 (.slice Ao Ls.length co) Ls.length vs [.slice none 0 0] ⟨W.heap.size, 0, none⟩ 1 (news_one ((Cells.new W _ _).drew)) (by rfl) rfl Tryd.underlying51 Tryd.infoSexps rfl (by decide) (by decide) (by rfl) (by simp [Act.eval]) rfl (by simp [Value.oneCell']) ((AS.out.row.alloc _).drew) (((Below.refl base W).alloc hbaseW _).drew) (by first | omega | (simp; omega)) (by omega) ?_
      intro v w1 h1 hB1 hg1 hat1
      obtain ⟨b1, c1, l1, rfl, hl1, _, _, _, _⟩ := own_row h1 (by omega)
      have hbz : base ≤ w1.heap.size := Nat.le_trans hbaseW hB1.size
      have kg1 := ((AG.out.alloc _).drew.grown hg1 (own_ne_cells AS.out.row AG.out (by decide)))
      refine hK.out _ _ kg1 (fun _ => ?_)
      clear hK K
      try simp only [Act.put, List.setIfInBounds_toArray, List.set_cons_zero, List.set_cons_succ]
      refine plan_on [(2, 13), (2, 14), (0, 15), (0, 16), (3, 17), (0, 18), (0, 19), (3, 20)] (by kernel_rfl) (fun _ _ d _ _ h => by cases d <;> exact h) (kg1) ?_
      simp only [planOps, List.filterMap_cons, List.filterMap_nil, List.getElem?_toArray, List.getElem?_cons_zero, List.getElem?_cons_succ, Option.map_some]
      refine plan_ef (fun K hK => ?_)
      go_simp
      refine hK.out _ _ (kg1.alloc _) (fun _ => ?_)
      clear hK K
      try simp only [Act.put, List.setIfInBounds_toArray, List.set_cons_zero, List.set_cons_succ]
      have hvb : w1.ownsRow base 3 1 (.slice Ab bs.length cb) bs.length (numsN bs) := (AB.out.alloc _).drew.kept hg1 (own_type_ne AB.out AS.out.row (by decide))
      refine plan_ef (fun K hK => ?_)
      refine ap_at (w0 := W) _ base (.tmp 56) (.tmp 58) 52 3 (.int .i64 0) 1 8 (.slice Ab bs.length cb) bs.length (numsN bs) [.int .i64 (i : Int)] ⟨w1.heap.size, 0, none⟩ 1 (news_one (Cells.new w1 _ _)) (by rfl) rfl Tryd.underlying52 Tryd.infoInt rfl (by decide) (by decide) (by rfl) (by simp [Act.eval]) rfl (by simp [Value.oneCell']) (hvb.alloc _) (hB1.alloc (Nat.le_trans hbaseW hB1.size) _) (by first | omega | (simp; omega)) (by omega) ?_
      intro v w4 h2 hB2 hg2 hat2
      obtain ⟨b2, c2, l2, rfl, hl2, _, _, _, _⟩ := own_row h2 (by omega)
      have kg2 := ((kg1.alloc _).grown hg2 (own_ne_cells AB.out AG.out (by decide)))
      refine hK.out _ _ kg2 (fun _ => ?_)
      clear hK K
      try simp only [Act.put, List.setIfInBounds_toArray, List.set_cons_zero, List.set_cons_succ]
      have hm4 := ((((Mod.refl (fun k => (Value.slice Ao Ls.length co).ownBlock = some k ∨ (Value.slice Ab bs.length cb).ownBlock = some k) W).alloc (.cells #[.slice none 0 0] 23)).drew.grown hg1 (fun k hk => .inl (.inl hk))).alloc (.cells #[.int .i64 (i : Int)] 3)).grown hg2 (fun k hk => .inl (.inr hk))
      have ho4 := (h1.alloc (.cells #[.int .i64 (i : Int)] 3)).kept hg2 (own_type_ne (h1.alloc (.cells #[.int .i64 (i : Int)] 3)) (hvb.alloc _) (by decide))
      have hb4 := h2
      have q1 := kg2.cell 1 _ rfl
      have q2 := kg2.cell 2 _ rfl
      have q3 := kg2.cell 3 _ rfl
      have f1 := kg2.frozen 1
      have f2 := kg2.frozen 2
      have f3 := kg2.frozen 3
      have FIN := Aside0.mk (push_fin AG.out hgb AS.out AB.out hbaseW hm4 ho4 hb4)
      have KG := Aside0.mk kg2
      clear hm4 ho4 hb4 kg2
      repeat (first | (refine' plan_pu _ (by rfl) (fun w' => ?_) ?_; rotate_left 1; (focus (go_simp; try (with_reducible rfl))); simp only [Act.put, List.setIfInBounds_toArray, List.set_cons_zero, List.set_cons_succ]))
      refine plan_fi (fun K hK => ?_)
      go_simp
      refine hK.out _ _ ?_
      clear hK K
      repeat (first | (refine' plan_pu _ (by rfl) (fun w' => ?_) ?_; rotate_left 1; (focus (go_simp; try (with_reducible rfl))); simp only [Act.put, List.setIfInBounds_toArray, List.set_cons_zero, List.set_cons_succ]))
      refine plan_fi (fun K hK => ?_)
      go_simp
      refine hK.out _ _ (plan_nil ?_)
      clear hK K
      go_wp2_with fail
      go_returns
      obtain ⟨⟨S', hR⟩, hBB⟩ := FIN.out
      have hm3 := Mod.setCell (p := ⟨g, 1, none⟩) (Mod.refl (fun k => k = g) ((w4.setCell ⟨g, 2, none⟩ (.slice (some ⟨b1, 0, none⟩) (Ls.length + 1) c1)).setCell ⟨g, 3, none⟩ (.slice (some ⟨b2, 0, none⟩) (bs.length + 1) c2))) (.inl rfl) (.int .i64 ((i + 1 : Nat) : Int))
      exact ⟨rfl, ⟨S', hR.keep hm3 (fun _ _ q => Cells.set q 1 _)⟩, (hB0.trans hBB).trans (hm3.belowB (fun k hk => hk ▸ hgb) (Nat.le_trans hbaseW hBB.size))⟩
    · go_simp
      refine hK.out _ _ (((AG.out.alloc _).alloc _).drew) (fun _ => ?_)
      clear hK K
      try simp only [Act.put, List.setIfInBounds_toArray, List.set_cons_zero, List.set_cons_succ]
      refine plan_on [(2, 7), (2, 14), (0, 15), (0, 16), (3, 17), (0, 18), (0, 19), (3, 20)] (by kernel_rfl) (fun _ _ d _ _ h => by cases d <;> exact h) (((AG.out.alloc _).alloc _).drew) ?_
      simp only [planOps, List.filterMap_cons, List.filterMap_nil, List.getElem?_toArray, List.getElem?_cons_zero, List.getElem?_cons_succ, Option.map_some]
      refine plan_ef (fun K hK => ?_)
      refine ap_at (w0 := W) _ base (.tmp 50) (.tmp 51) 51 23 (.slice none 0 0) 1 24 (.slice Ao Ls.length co) Ls.length vs [.slice none 0 0] ⟨W.heap.size, 0, none⟩ 1 (news_one (((Cells.new W _ _).alloc _).drew)) (by rfl) rfl Tryd.underlying51 Tryd.infoSexps rfl (by decide) (by decide) (by rfl) (by simp [Act.eval]) rfl (by simp [Value.oneCell']) (((AS.out.row.alloc _).alloc _).drew) ((((Below.refl base W).alloc hbaseW _).alloc (by simp; omega) _).drew) (by first | omega | (simp; omega)) (by omega) ?_
      intro v w1 h1 hB1 hg1 hat1
      obtain ⟨b1, c1, l1, rfl, hl1, _, _, _, _⟩ := own_row h1 (by omega)
      have hbz : base ≤ w1.heap.size := Nat.le_trans hbaseW hB1.size
      have kg1 := (((AG.out.alloc _).alloc _).drew.grown hg1 (own_ne_cells AS.out.row AG.out (by decide)))
      refine hK.out _ _ kg1 (fun _ => ?_)
      clear hK K
      try simp only [Act.put, List.setIfInBounds_toArray, List.set_cons_zero, List.set_cons_succ]
      have hvb : w1.ownsRow base 3 1 (.slice Ab bs.length cb) bs.length (numsN bs) := ((AB.out.alloc _).alloc _).drew.kept hg1 (own_type_ne AB.out AS.out.row (by decide))
      have kB : Cells w1 (W.heap.size + 1) 3 [.int .i64 (i : Int)] := ((by simpa using Cells.new (W.alloc (.cells #[.slice none 0 0] 23)) 3 [.int .i64 (i : Int)] : Cells ((W.alloc (.cells #[.slice none 0 0] 23)).alloc (.cells #[.int .i64 (i : Int)] 3)) (W.heap.size + 1) 3 [.int .i64 (i : Int)]).drew).grown hg1 (fun e => by have := own_lt_size AS.out.row _ e; omega)
      refine plan_ef (fun K hK => ?_)
      refine ap_at (w0 := W) _ base (.tmp 56) (.tmp 58) 52 3 (.int .i64 0) 1 8 (.slice Ab bs.length cb) bs.length (numsN bs) [.int .i64 (i : Int)] ⟨W.heap.size + 1, 0, none⟩ 1 (news_one (kB)) (by rfl) rfl Tryd.underlying52 Tryd.infoInt rfl (by decide) (by decide) (by rfl) (by simp [Act.eval]) rfl (by simp [Value.oneCell']) (hvb) (hB1) (by first | omega | (simp; omega)) (by omega) ?_
      intro v w4 h2 hB2 hg2 hat2
      obtain ⟨b2, c2, l2, rfl, hl2, _, _, _, _⟩ := own_row h2 (by omega)
      have kg2 := (kg1.grown hg2 (own_ne_cells AB.out AG.out (by decide)))
      refine hK.out _ _ kg2 (fun _ => ?_)
      clear hK K
      try simp only [Act.put, List.setIfInBounds_toArray, List.set_cons_zero, List.set_cons_succ]
      have hm4 := ((((Mod.refl (fun k => (Value.slice Ao Ls.length co).ownBlock = some k ∨ (Value.slice Ab bs.length cb).ownBlock = some k) W).alloc (.cells #[.slice none 0 0] 23)).alloc (.cells #[.int .i64 (i : Int)] 3)).drew.grown hg1 (fun k hk => .inl (.inl hk))).grown hg2 (fun k hk => .inl (.inr hk))
      have ho4 := h1.kept hg2 (own_type_ne h1 hvb (by decide))
      have hb4 := h2
      have q1 := kg2.cell 1 _ rfl
      have q2 := kg2.cell 2 _ rfl
      have q3 := kg2.cell 3 _ rfl
      have f1 := kg2.frozen 1
      have f2 := kg2.frozen 2
      have f3 := kg2.frozen 3
      have FIN := Aside0.mk (push_fin AG.out hgb AS.out AB.out hbaseW hm4 ho4 hb4)
      have KG := Aside0.mk kg2
      clear hm4 ho4 hb4 kg2
      repeat (first | (refine' plan_pu _ (by rfl) (fun w' => ?_) ?_; rotate_left 1; (focus (go_simp; try (with_reducible rfl))); simp only [Act.put, List.setIfInBounds_toArray, List.set_cons_zero, List.set_cons_succ]))
      refine plan_fi (fun K hK => ?_)
      go_simp
      refine hK.out _ _ ?_
      clear hK K
      repeat (first | (refine' plan_pu _ (by rfl) (fun w' => ?_) ?_; rotate_left 1; (focus (go_simp; try (with_reducible rfl))); simp only [Act.put, List.setIfInBounds_toArray, List.set_cons_zero, List.set_cons_succ]))
      refine plan_fi (fun K hK => ?_)
      go_simp
      refine hK.out _ _ (plan_nil ?_)
      clear hK K
      go_wp2_with fail
      go_returns
      obtain ⟨⟨S', hR⟩, hBB⟩ := FIN.out
      have hm3 := Mod.setCell (p := ⟨g, 1, none⟩) (Mod.refl (fun k => k = g) ((w4.setCell ⟨g, 2, none⟩ (.slice (some ⟨b1, 0, none⟩) (Ls.length + 1) c1)).setCell ⟨g, 3, none⟩ (.slice (some ⟨b2, 0, none⟩) (bs.length + 1) c2))) (.inl rfl) (.int .i64 ((i + 1 : Nat) : Int))
      exact ⟨rfl, ⟨S', hR.keep hm3 (fun _ _ q => Cells.set q 1 _)⟩, (hB0.trans hBB).trans (hm3.belowB (fun k hk => hk ▸ hgb) (Nat.le_trans hbaseW hBB.size))⟩
  · go_simp
    refine hK.out _ _ ((AG.out.alloc _).drew) (fun _ => ?_)
    clear hK K
    try simp only [Act.put, List.setIfInBounds_toArray, List.set_cons_zero, List.set_cons_succ]
    refine plan_on [(2, 6), (2, 7), (2, 14), (0, 15), (0, 16), (3, 17), (0, 18), (0, 19), (3, 20)] (by kernel_rfl) (fun _ _ d _ _ h => by cases d <;> exact h) ((AG.out.alloc _).drew) ?_
    simp only [planOps, List.filterMap_cons, List.filterMap_nil, List.getElem?_toArray, List.getElem?_cons_zero, List.getElem?_cons_succ, Option.map_some]
    refine plan_ef (fun K hK => ?_)
    go_simp
    refine hK.out _ _ (((AG.out.alloc _).alloc _).drew) (fun _ => ?_)
    clear hK K
    try simp only [Act.put, List.setIfInBounds_toArray, List.set_cons_zero, List.set_cons_succ]
    refine plan_ef (fun K hK => ?_)
    refine ap_at (w0 := W) _ base (.tmp 50) (.tmp 51) 51 23 (.slice none 0 0) 1 24 (.slice Ao Ls.length co) Ls.length vs [.slice none 0 0] ⟨W.heap.size + 1, 0, none⟩ 1 (news_one (Cells.drew (by simpa using Cells.new (W.alloc (.cells #[.int .i64 (i : Int)] 3)) 23 [.slice none 0 0]))) (by rfl) rfl Tryd.underlying51 Tryd.infoSexps rfl (by decide) (by decide) (by rfl) (by simp [Act.eval]) rfl (by simp [Value.oneCell']) (((AS.out.row.alloc _).alloc _).drew) ((((Below.refl base W).alloc hbaseW _).alloc (by simp; omega) _).drew) (by first | omega | (simp; omega)) (by omega) ?_
    intro v w1 h1 hB1 hg1 hat1
    obtain ⟨b1, c1, l1, rfl, hl1, _, _, _, _⟩ := own_row h1 (by omega)
    have hbz : base ≤ w1.heap.size := Nat.le_trans hbaseW hB1.size
    have kg1 := (((AG.out.alloc _).alloc _).drew.grown hg1 (own_ne_cells AS.out.row AG.out (by decide)))
    refine hK.out _ _ kg1 (fun _ => ?_)
    clear hK K
    try simp only [Act.put, List.setIfInBounds_toArray, List.set_cons_zero, List.set_cons_succ]
    have hvb : w1.ownsRow base 3 1 (.slice Ab bs.length cb) bs.length (numsN bs) := ((AB.out.alloc _).alloc _).drew.kept hg1 (own_type_ne AB.out AS.out.row (by decide))
    have kB : Cells w1 (W.heap.size) 3 [.int .i64 (i : Int)] := (((Cells.new W 3 [.int .i64 (i : Int)]).alloc (.cells #[.slice none 0 0] 23)).drew).grown hg1 (fun e => by have := own_lt_size AS.out.row _ e; omega)
    refine plan_ef (fun K hK => ?_)
    refine ap_at (w0 := W) _ base (.tmp 56) (.tmp 58) 52 3 (.int .i64 0) 1 8 (.slice Ab bs.length cb) bs.length (numsN bs) [.int .i64 (i : Int)] ⟨W.heap.size, 0, none⟩ 1 (news_one (kB)) (by rfl) rfl Tryd.underlying52 Tryd.infoInt rfl (by decide) (by decide) (by rfl) (by simp [Act.eval]) rfl (by simp [Value.oneCell']) (hvb) (hB1) (by first | omega | (simp; omega)) (by omega) ?_
    intro v w4 h2 hB2 hg2 hat2
    obtain ⟨b2, c2, l2, rfl, hl2, _, _, _, _⟩ := own_row h2 (by omega)
    have kg2 := (kg1.grown hg2 (own_ne_cells AB.out AG.out (by decide)))
    refine hK.out _ _ kg2 (fun _ => ?_)
    clear hK K
    try simp only [Act.put, List.setIfInBounds_toArray, List.set_cons_zero, List.set_cons_succ]
    have hm4 := ((((Mod.refl (fun k => (Value.slice Ao Ls.length co).ownBlock = some k ∨ (Value.slice Ab bs.length cb).ownBlock = some k) W).alloc (.cells #[.int .i64 (i : Int)] 3)).alloc (.cells #[.slice none 0 0] 23)).drew.grown hg1 (fun k hk => .inl (.inl hk))).grown hg2 (fun k hk => .inl (.inr hk))
    have ho4 := h1.kept hg2 (own_type_ne h1 hvb (by decide))
    have hb4 := h2
    have q1 := kg2.cell 1 _ rfl
    have q2 := kg2.cell 2 _ rfl
    have q3 := kg2.cell 3 _ rfl
    have f1 := kg2.frozen 1
    have f2 := kg2.frozen 2
    have f3 := kg2.frozen 3
    have FIN := Aside0.mk (push_fin AG.out hgb AS.out AB.out hbaseW hm4 ho4 hb4)
    have KG := Aside0.mk kg2
    clear hm4 ho4 hb4 kg2
    repeat (first | (refine' plan_pu _ (by rfl) (fun w' => ?_) ?_; rotate_left 1; (focus (go_simp; try (with_reducible rfl))); simp only [Act.put, List.setIfInBounds_toArray, List.set_cons_zero, List.set_cons_succ]))
    refine plan_fi (fun K hK => ?_)
    go_simp
    refine hK.out _ _ ?_
    clear hK K
    repeat (first | (refine' plan_pu _ (by rfl) (fun w' => ?_) ?_; rotate_left 1; (focus (go_simp; try (with_reducible rfl))); simp only [Act.put, List.setIfInBounds_toArray, List.set_cons_zero, List.set_cons_succ]))
    refine plan_fi (fun K hK => ?_)
    go_simp
    refine hK.out _ _ (plan_nil ?_)
    clear hK K
    go_wp2_with fail
    go_returns
    obtain ⟨⟨S', hR⟩, hBB⟩ := FIN.out
    have hm3 := Mod.setCell (p := ⟨g, 1, none⟩) (Mod.refl (fun k => k = g) ((w4.setCell ⟨g, 2, none⟩ (.slice (some ⟨b1, 0, none⟩) (Ls.length + 1) c1)).setCell ⟨g, 3, none⟩ (.slice (some ⟨b2, 0, none⟩) (bs.length + 1) c2))) (.inl rfl) (.int .i64 ((i + 1 : Nat) : Int))
    exact ⟨rfl, ⟨S', hR.keep hm3 (fun _ _ q => Cells.set q 1 _)⟩, (hB0.trans hBB).trans (hm3.belowB (fun k hk => hk ▸ hgb) (Nat.le_trans hbaseW hBB.size))⟩
end Go.Proofs.YtdhfjaekhibaaaaDoor
