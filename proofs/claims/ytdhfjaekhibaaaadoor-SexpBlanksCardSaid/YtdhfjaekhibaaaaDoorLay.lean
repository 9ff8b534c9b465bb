/-
The reader's state in memory; lays. Conditions: the lists' lengths.
-/
import Derived.Test.YtdhfjaekhibaaaaDoorTst
import Derived.BigRegion
import Derived.Deep.RegionHeld3
namespace Go.Proofs.YtdhfjaekhibaaaaDoor
set_option maxRecDepth 4096
open Go.RowKit Go.Proofs.YtdhfjaekhibaaaaDoorW.PrintWords

def numsN (bs : List Nat) : List Value := bs.map fun (n : Nat) => Value.int .i64 (n : Int)

/-- The reader at block g: the text, how far, the open lists, where they began. -/
def RS (W : World) (base g : Nat) (s : ByteArray) (i : Nat) (Ls : List (List Sx)) (bs : List Nat) (S : Nat → Nat → Prop) : Prop :=
  ∃ vo vb vs, Cells W g 54 [.string s, .int .i64 (i : Int), vo, vb] ∧ base ≤ g ∧ Stk W base vo Ls vs S ∧ W.ownsRow base 3 1 vb bs.length (numsN bs)

theorem Tryd.infoSexp : (Tryd.prog.info? 35).map (fun i => (i.zero, i.size, i.bytes)) = some (some (.agg #[.string ⟨#[]⟩, .bool false, .slice none 0 0]), 3, 48) := by kernel_rfl
theorem Tryd.infoSexps : (Tryd.prog.info? 23).map (fun i => (i.zero, i.size, i.bytes)) = some (some (.slice none 0 0), 1, 24) := by kernel_rfl
theorem Tryd.infoInt : (Tryd.prog.info? 3).map (fun i => (i.zero, i.size, i.bytes)) = some (some (.int .i64 0), 1, 8) := by kernel_rfl

/-- A row's own block, its cells. -/
theorem own_row {w : World} {base e size n : Nat} {v : Value} {xs : List Value} (h : w.ownsRow base e size v n xs) (hn : 0 < n) : ∃ g cap l, v = .slice (some ⟨g, 0, none⟩) n cap ∧ Cells w g e l ∧ base ≤ g ∧ n ≤ cap ∧ l.take (n * size) = xs ∧ cap ≤ 9223372036854775807 := by
  rcases h.2 with ⟨_, h0⟩ | ⟨g, cap, cur, rfl, hb, hh, hn, hc, _, ht⟩
  · omega
  · exact ⟨g, cap, cur.toList, rfl, by simpa [Cells] using hh, hb, hn, ht, hc⟩

set_option maxHeartbeats 1000000 in
theorem lays_any (base g : Nat) (s : ByteArray) (i : Nat) (Ls : List (List Sx)) (L : List Sx) (bs : List Nat) (S : Nat → Nat → Prop) (x : Sx) (c : List Value) (T : Nat → Prop) (w : World)
    (h : RS w base g s i (Ls ++ [L]) bs S) (hx : RT w T x c) (hT : ∀ k, T k → base ≤ k ∧ (∃ l, Cells w k 35 l) ∧ ∀ i, i < Ls.length + 1 → ¬ S i k) (hL : L.length ≤ 100000) (hLs : Ls.length ≤ 1000) (hbase : base ≤ w.heap.size) :
    Calls Tryd.prog 38 #[.pointer (some ⟨g, 0, none⟩), .agg c.toArray] w fun e w' => e = .returned (.tuple #[]) ∧ (∃ S', RS w' base g s i (Ls ++ [L ++ [x]]) bs S') ∧ Below base w w' := by
  obtain ⟨vo, vb, vs, hg, hgb, hst, hbs⟩ := h
  obtain ⟨A0, c0, rfl, _⟩ := RT_cells hx
  have hlen : vs.length = Ls.length + 1 := by rw [hst.len]; simp
  obtain ⟨bo, capo, lo, rfl, hlo, hbo, hno, htake, hcapo⟩ := own_row hst.row (by simp)
  rw [show (Ls ++ [L]).length = Ls.length + 1 by simp] at hst hno htake hg
  obtain ⟨v, hv⟩ : ∃ v, vs[Ls.length]? = some v := ⟨_, List.getElem?_eq_getElem (by omega)⟩
  have hlov : lo[Ls.length]? = some v := by
    rw [← htake, List.getElem?_take, if_pos (by omega)] at hv; exact hv
  obtain ⟨cs, how, hels, hvS⟩ := hst.each Ls.length L v (by simp) hv
  have hvg : v.ownBlock ≠ some g := own_ne_cells how hg (by decide)
  have hvbo : v.ownBlock ≠ some bo := own_ne_cells how hlo (by decide)
  have hgbo : g ≠ bo := by rintro rfl; exact absurd (hg.ty hlo).1 (by decide)
  have h2 := hg.cell 2 _ rfl
  have hgl := hg.lt
  have hbol := hlo.lt
  have hn0 : (0 : Int) ≤ (Ls.length : Int) := by omega
  have hn1 : (Ls.length : Int) < (Ls.length : Int) + 1 := by omega
  have AS := Aside0.mk hst
  have ASt := Aside0.mk htake
  have ASl := Aside0.mk hlen
  have ASv := Aside0.mk hv
  have ASlv := Aside0.mk hlov
  have ASh := Aside0.mk hels
  clear hst htake hlen hv hlov hels
  go_enter Tryd.func38, Tryd.ntmps38
  go_wp2
  go_region
  · go_wp2
    refine wp_plan [(0, 0), (0, 1), (0, 2), (0, 4), (0, 5), (0, 6), (0, 7), (0, 9), (1, 3), (1, 8), (0, 10), (1, 11), (1, 12), (2, 13), (2, 14), (0, 15), (3, 16)]
      (fun w' => Cells w' g 54 [.string s, .int .i64 (i : Int), .slice (some ⟨bo, 0, none⟩) (Ls.length + 1) capo, vb] ∧ Cells w' bo 23 lo ∧ Cells w' w.heap.size 35 [.string x.word, .bool x.list, .slice A0 x.kids.length c0]) (by kernel_rfl) (by kernel_rfl) (fun _ _ d _ _ h => by cases d <;> exact h) ?_ ?_
    · exact ⟨(hg.alloc _).alloc _, (hlo.alloc _).alloc _, (Cells.new w _ _).alloc _⟩
    simp only [planOps, List.filterMap_cons, List.filterMap_nil, List.getElem?_toArray, List.getElem?_cons_zero, List.getElem?_cons_succ, Option.map_some]
    repeat (first
      | (refine' plan_pu _ (by rfl) (fun w' => ?_) ?_; rotate_left 1; (focus (go_simp; try (with_reducible rfl))); simp only [Act.put, List.setIfInBounds_toArray, List.set_cons_zero, List.set_cons_succ])
      | (refine' plan_ld _ (by rfl) (fun w' hSw => ?_) ?_; rotate_left 1; (focus ((try dsimp only at hSw); obtain ⟨q1, q2, q3⟩ := hSw; have c1 := q1.cell 2 _ rfl; have c2 := q2.cell _ _ ASlv.out; have c3 := q3.cell 0 _ rfl; have c4 := q3.cell 1 _ rfl; have c5 := q3.cell 2 _ rfl; go_simp; try (with_reducible rfl))); simp only [Act.put, List.setIfInBounds_toArray, List.set_cons_zero, List.set_cons_succ]))
    refine plan_ef (fun K hK => ?_)
    go_simp
    refine hK.out _ _ ⟨(((hg.alloc _).alloc _)).alloc _, ((hlo.alloc _).alloc _).alloc _, ((Cells.new w _ _).alloc _).alloc _⟩ (fun _ => ?_)
    clear hK K
    refine plan_ef (fun K hK => ?_)
    refine ap_step (w0 := w) (((w.alloc (.cells #[.string x.word, .bool x.list, .slice A0 x.kids.length c0] 35)).alloc (.cells #[.bool false] 4)).drew.drew) base (.tmp 37) (.tmp 39) 23 35 (.agg #[.string ⟨#[]⟩, .bool false, .slice none 0 0]) 3 48
      v L.length cs [.string x.word, .bool x.list, .slice A0 x.kids.length c0] rfl (by rfl) rfl Tryd.underlying23 Tryd.infoSexp rfl (by decide) (by decide) (by rfl) (by simp [Act.eval]) rfl (RT_one hx) ((how.alloc _).alloc _) ?_ ?_ (by omega) ?_
    · exact (((Below.refl _ _).alloc hbase _).alloc (by simp; omega) _).drew.drew
    · simp; omega
    intro v1 w1 hown1 hb1 hg1 hat1
    obtain ⟨b1, cap1, l1, rfl, hl1, _, _, _, _⟩ := own_row hown1 (by omega)
    have hvn : v.ownBlock ≠ some w.heap.size := fun e => by have := own_lt_size how _ e; omega
    have kg := ((hg.alloc _).alloc _).drew.drew.grown hg1 hvg
    have ko := ((hlo.alloc _).alloc _).drew.drew.grown hg1 hvbo
    have kc := ko.cell _ _ ASlv.out
    have kf := ko.frozen Ls.length
    refine hK.out _ _ ⟨kg, ko, ((Cells.new w _ _).alloc _).drew.drew.grown hg1 hvn⟩ (fun _ => ?_)
    clear hK K
    have hv1 : b1 ≠ bo := by rintro rfl; exact absurd (hl1.ty ko).1 (by decide)
    have HG := Aside0.mk hg1
    have HT := Aside0.mk hat1
    have HO := Aside0.mk hown1
    have HV := Aside0.mk hv1
    clear hg1 hat1 hown1 hv1
    repeat (first
      | (refine' plan_pu _ (by rfl) (fun w' => ?_) ?_; rotate_left 1; (focus (go_simp; try (with_reducible rfl))); simp only [Act.put, List.setIfInBounds_toArray, List.set_cons_zero, List.set_cons_succ]))
    refine plan_fi (fun K hK => ?_)
    go_simp
    refine hK.out _ _ (plan_nil ?_)
    clear hK K
    go_returns
    have hm2 : Mod (fun k => v.ownBlock = some k ∨ k = bo) w (w1.setCell ⟨bo, Ls.length, none⟩ (.slice (some ⟨b1, 0, none⟩) (L.length + 1) cap1)) :=
      (((((Mod.refl _ w).alloc _).alloc _).drew.drew).grown HG.out (fun k hk => .inl (.inl hk))).setCell (.inl (.inr rfl)) _
    have hown2 := own_keep (S := fun k => k = bo) HO.out (Mod.setCell (p := ⟨bo, Ls.length, none⟩) (Mod.refl (fun k => k = bo) w1) (.inl rfl) (.slice (some ⟨b1, 0, none⟩) (L.length + 1) cap1)) (by rintro k hk rfl; simp [Value.ownBlock] at hk; exact HV.out hk)
    have hrow1 := own_keep (S := fun k => v.ownBlock = some k) AS.out.row ((((Mod.refl _ w).alloc _).alloc _).drew.drew.grown HG.out (fun k hk => .inl hk)) (by intro k hk e; simp [Value.ownBlock] at hk; exact hvbo (hk ▸ e))
    rw [show (Ls ++ [L]).length = Ls.length + 1 by simp] at hrow1
    have hst2 := Stk.lays AS.out ASh.out hvS hx hT hm2 (by
      rcases HT.out with hat | ⟨b, hb, hle⟩
      · exact .inl hat
      · exact .inr ⟨b, hb, by simp at hle; omega⟩) hown2 (hrow1.stored Ls.length _).1
    refine ⟨rfl, ⟨_, _, _, _, kg.far hgbo _, hgb, hst2, ?_⟩, hm2.belowB (fun k hk => ?_) hbase⟩
    · exact own_keep hbs hm2 (fun k hk e => by
        obtain ⟨lb, hlb⟩ := own_cells hbs k hk
        rcases e with e | rfl
        · exact own_ne_cells how hlb (by decide) e
        · exact absurd (hlb.ty hlo).1 (by decide))
    · rcases hk with e | rfl
      · exact own_base_le how k e
      · exact hbo
  · go_wp2
    refine wp_plan [(0, 0), (0, 1), (0, 2), (0, 4), (1, 3), (0, 5), (1, 6), (0, 8), (1, 7), (2, 9), (3, 10), (0, 11), (3, 12)]
      (fun w' => Cells w' g 54 [.string s, .int .i64 (i : Int), .slice (some ⟨bo, 0, none⟩) (Ls.length + 1) capo, vb] ∧ Cells w' bo 23 lo ∧ Cells w' w.heap.size 35 [.string x.word, .bool x.list, .slice A0 x.kids.length c0]) (by kernel_rfl) (by kernel_rfl) (fun _ _ d _ _ h => by cases d <;> exact h) ?_ ?_
    · exact ⟨(hg.alloc _).alloc _, (hlo.alloc _).alloc _, (Cells.new w _ _).alloc _⟩
    simp only [planOps, List.filterMap_cons, List.filterMap_nil, List.getElem?_toArray, List.getElem?_cons_zero, List.getElem?_cons_succ, Option.map_some]
    obtain ⟨Av, cv, rfl, _⟩ : ∃ A c, v = .slice A L.length c ∧ L.length ≤ c := by
      rcases how.2 with ⟨rfl, h0⟩ | ⟨g', cap, cur, rfl, _, _, hn, _⟩
      · exact ⟨none, 0, by rw [h0], by omega⟩
      · exact ⟨_, _, rfl, hn⟩
    repeat (first
      | (refine' plan_pu _ (by rfl) (fun w' => ?_) ?_; rotate_left 1; (focus (go_simp; try (with_reducible rfl))); simp only [Act.put, List.setIfInBounds_toArray, List.set_cons_zero, List.set_cons_succ])
      | (refine' plan_ld _ (by rfl) (fun w' hSw => ?_) ?_; rotate_left 1; (focus ((try dsimp only at hSw); obtain ⟨q1, q2, q3⟩ := hSw; have c1 := q1.cell 2 _ rfl; have c2 := q2.cell _ _ ASlv.out; have c3 := q3.cell 0 _ rfl; have c4 := q3.cell 1 _ rfl; have c5 := q3.cell 2 _ rfl; go_simp; try (with_reducible rfl))); simp only [Act.put, List.setIfInBounds_toArray, List.set_cons_zero, List.set_cons_succ]))
    refine plan_ef (fun K hK => ?_)
    go_simp
    refine hK.out _ _ ⟨(((hg.alloc _).alloc _)).alloc _, ((hlo.alloc _).alloc _).alloc _, ((Cells.new w _ _).alloc _).alloc _⟩ (fun _ => ?_)
    clear hK K
    refine plan_fi (fun K hK => ?_)
    refine ap_step (w0 := w) (((w.alloc (.cells #[.string x.word, .bool x.list, .slice A0 x.kids.length c0] 35)).alloc (.cells #[.bool true] 4)).drew.drew) base (.tmp 19) (.tmp 22) 23 35 (.agg #[.string ⟨#[]⟩, .bool false, .slice none 0 0]) 3 48
      (.slice Av L.length cv) L.length cs [.string ⟨#[]⟩, .bool false, .slice none 0 0] rfl (by rfl) rfl Tryd.underlying23 Tryd.infoSexp rfl (by decide) (by decide) (by rfl) (by simp [Act.eval]) rfl (by simp [Value.oneCell']) ((how.alloc _).alloc _) ?_ ?_ (by omega) ?_
    · exact (((Below.refl _ _).alloc hbase _).alloc (by simp; omega) _).drew.drew
    · simp; omega
    intro v1 w1 hown1 hb1 hg1 hat1
    obtain ⟨b1, cap1, l1, rfl, hl1, _, _, _, _⟩ := own_row hown1 (by omega)
    have hvn : (Value.slice Av L.length cv).ownBlock ≠ some w.heap.size := fun e => by have := own_lt_size how _ e; omega
    have kg := ((hg.alloc _).alloc _).drew.drew.grown hg1 hvg
    have ko := ((hlo.alloc _).alloc _).drew.drew.grown hg1 hvbo
    have kc := ko.cell _ _ ASlv.out
    have kf := ko.frozen Ls.length
    refine hK.out _ _ ?_
    clear hK K
    have hv1 : b1 ≠ bo := by rintro rfl; exact absurd (hl1.ty ko).1 (by decide)
    have hcl : cs.length = L.length * 3 := how.1
    have z0 : w1.cell? ⟨b1, L.length * 3, none⟩ = some (.string ⟨#[]⟩) := by rw [hown1.cellAt _ (by omega), ← hcl]; simp
    have z1 : w1.cell? ⟨b1, L.length * 3 + 1, none⟩ = some (.bool false) := by rw [hown1.cellAt _ (by omega), ← hcl]; simp
    have z2 : w1.cell? ⟨b1, L.length * 3 + 2, none⟩ = some (.slice none 0 0) := by rw [hown1.cellAt _ (by omega), ← hcl]; simp
    have y0 := hown1.frozenAt (L.length * 3)
    have y1 := hown1.frozenAt (L.length * 3 + 1)
    have y2 := hown1.frozenAt (L.length * 3 + 2)
    have HG := Aside0.mk hg1
    have HT := Aside0.mk hat1
    have HO := Aside0.mk hown1
    have HL := Aside0.mk hl1
    have HC := Aside0.mk hcl
    clear hg1 hat1 hown1 hl1 hcl
    repeat (first
      | (refine' plan_pu _ (by rfl) (fun w' => ?_) ?_; rotate_left 1; (focus (go_simp; try (with_reducible rfl))); simp only [Act.put, List.setIfInBounds_toArray, List.set_cons_zero, List.set_cons_succ]))
    refine plan_fi (fun K hK => ?_)
    go_simp
    refine hK.out _ _ (plan_nil ?_)
    clear hK K
    go_wp2
    go_returns
    have hown2 := own_keep (S := fun k => k = bo) HO.out (Mod.setCell (p := ⟨bo, Ls.length, none⟩) (Mod.refl (fun k => k = bo) w1) (.inl rfl) (.slice (some ⟨b1, 0, none⟩) (L.length + 1) cap1)) (by rintro k hk rfl; simp [Value.ownBlock] at hk; exact hv1 hk)
    have hown3 := (((hown2.stored (L.length * 3) (.string x.word)).1.stored (L.length * 3 + 1) (.bool x.list)).1.stored (L.length * 3 + 2) (.slice A0 x.kids.length c0)).1
    rw [show (((cs ++ [Value.string ⟨#[]⟩, .bool false, .slice none 0 0]).set (L.length * 3) (.string x.word)).set (L.length * 3 + 1) (.bool x.list)).set (L.length * 3 + 2) (.slice A0 x.kids.length c0) = cs ++ [.string x.word, .bool x.list, .slice A0 x.kids.length c0] by
      rw [← HC.out]; simp] at hown3
    have hm1 : Mod (fun k => (Value.slice Av L.length cv).ownBlock = some k ∨ k = bo) w (w1.setCell ⟨bo, Ls.length, none⟩ (.slice (some ⟨b1, 0, none⟩) (L.length + 1) cap1)) :=
      (((((Mod.refl _ w).alloc _).alloc _).drew.drew).grown HG.out (fun k hk => .inl (.inl hk))).setCell (.inl (.inr rfl)) _
    have hb1 : (Value.slice Av L.length cv).ownBlock = some b1 ∨ b1 = bo ∨ w.heap.size ≤ b1 := by
      rcases HT.out with hat | ⟨b, hb, hle⟩
      · exact .inl hat.symm
      · simp [Value.ownBlock] at hb; subst hb; simp at hle; exact .inr (.inr (by omega))
    have hb1' : ((Value.slice Av L.length cv).ownBlock = some b1 ∨ b1 = bo) ∨ w.heap.size ≤ b1 := by
      rcases hb1 with h | h | h
      · exact .inl (.inl h)
      · exact .inl (.inr h)
      · exact .inr h
    have hm2 := ((hm1.setCell (p := ⟨b1, L.length * 3, none⟩) hb1' (.string x.word)).setCell (p := ⟨b1, L.length * 3 + 1, none⟩) hb1' (.bool x.list)).setCell (p := ⟨b1, L.length * 3 + 2, none⟩) hb1' (.slice A0 x.kids.length c0)
    have hrow1 := own_keep (S := fun k => (Value.slice Av L.length cv).ownBlock = some k) AS.out.row ((((Mod.refl _ w).alloc _).alloc _).drew.drew.grown HG.out (fun k hk => .inl hk)) (by intro k hk e; simp only [Value.ownBlock, Option.some.injEq] at hk; exact hvbo (hk ▸ e))
    rw [show (Ls ++ [L]).length = Ls.length + 1 by simp] at hrow1
    have hrow2 := (hrow1.stored Ls.length (.slice (some ⟨b1, 0, none⟩) (L.length + 1) cap1)).1
    have hrow3 := own_keep (S := fun k => k = b1) hrow2 (((Mod.setCell (p := ⟨b1, L.length * 3, none⟩) (Mod.refl (fun k => k = b1) _) (.inl rfl) (.string x.word)).setCell (p := ⟨b1, L.length * 3 + 1, none⟩) (.inl rfl) (.bool x.list)).setCell (p := ⟨b1, L.length * 3 + 2, none⟩) (.inl rfl) (.slice A0 x.kids.length c0))
      (by rintro k hk rfl; simp only [Value.ownBlock, Option.some.injEq] at hk; exact hv1 hk.symm)
    have hst2 := Stk.lays AS.out ASh.out hvS hx hT hm2 (by
      rcases HT.out with hat | ⟨b, hb, hle⟩
      · exact .inl hat
      · exact .inr ⟨b, hb, by simp at hle; omega⟩) hown3 hrow3
    have hgb1 : g ≠ b1 := by
      rintro rfl; exact absurd (kg.ty HL.out).1 (by decide)
    refine ⟨rfl, ⟨_, _, _, _, (((kg.far hgbo _).far hgb1 _).far hgb1 _).far hgb1 _, hgb, hst2, ?_⟩, hm2.belowB (fun k hk => ?_) hbase⟩
    · exact own_keep hbs hm2 (fun k hk e => by
        obtain ⟨lb, hlb⟩ := own_cells hbs k hk
        rcases e with e | rfl
        · exact own_ne_cells how hlb (by decide) e
        · exact absurd (hlb.ty hlo).1 (by decide))
    · rcases hk with e | rfl
      · exact own_base_le how k e
      · exact hbo
end Go.Proofs.YtdhfjaekhibaaaaDoor
