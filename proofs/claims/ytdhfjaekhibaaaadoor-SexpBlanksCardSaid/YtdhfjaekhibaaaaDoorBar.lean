/-
A word in bars. Conditions: the text's length, the lists' lengths.
-/
import Derived.Test.YtdhfjaekhibaaaaDoorLay
import Derived.Lib.Strings
namespace Go.Proofs.YtdhfjaekhibaaaaDoor
set_option maxRecDepth 4096
open Go.RowKit Go.Proofs.YtdhfjaekhibaaaaDoorW.PrintWords

theorem extract_cut (s : ByteArray) (i j : Nat) : s.extract i j = cut s.data.toList i j := by
  apply ByteArray.ext
  apply Array.ext'
  rw [Lib.extract_data]; rfl

/-- An error of a text: where it lies, its place and its number. -/
def ErrV (w : World) (v : Value) (p n : Nat) : Prop := ∃ b, v = .iface 61 (.pointer (some ⟨b, 0, none⟩)) ∧ Cells w b 65 [.int .i64 (p : Int), .int .i64 (n : Int)]

theorem RS.keep {W W' : World} {base g : Nat} {s : ByteArray} {i j : Nat} {Ls : List (List Sx)} {bs : List Nat} {S : Nat → Nat → Prop} (h : RS W base g s i Ls bs S) (hm : Mod (fun k => k = g) W W')
    (hc : ∀ vo vb, Cells W g 54 [.string s, .int .i64 (i : Int), vo, vb] → Cells W' g 54 [.string s, .int .i64 (j : Int), vo, vb]) : RS W' base g s j Ls bs S := by
  obtain ⟨vo, vb, vs, hg, hgb, hst, hbs⟩ := h
  refine ⟨vo, vb, vs, hc vo vb hg, hgb, hst.keepT hm (fun k _ hk => ⟨_, _, hk ▸ hg, by decide, by decide⟩), own_keep hbs hm (fun k hk e => ?_)⟩
  subst e
  exact own_ne_cells hbs hg (by decide) hk
theorem RS.cells {W : World} {base g : Nat} {s : ByteArray} {i : Nat} {Ls : List (List Sx)} {bs : List Nat} {S : Nat → Nat → Prop} (h : RS W base g s i Ls bs S) : ∃ vo vb, Cells W g 54 [.string s, .int .i64 (i : Int), vo, vb] ∧ base ≤ g := by
  obtain ⟨vo, vb, vs, hg, hgb, _⟩ := h; exact ⟨vo, vb, hg, hgb⟩
theorem RS.drewN {W : World} {base g : Nat} {s : ByteArray} {i : Nat} {Ls : List (List Sx)} {bs : List Nat} {S : Nat → Nat → Prop} (h : RS W base g s i Ls bs S) (n : Nat) : RS (W.drewN n) base g s i Ls bs S :=
  h.keep ((Mod.refl _ _).drewN n) (fun _ _ q => q)

theorem RT_word (w : World) (S : Nat → Prop) (wd : ByteArray) (h : wd.size ≤ 9223372036854775807) : RT w S (wordSx wd) [.string wd, .bool false, .slice none 0 0] :=
  RT_mk (wordSx wd) (A := none) (c := 0) (Nat.le_refl _) (by omega) h (RL_nil _ _ _ _)

set_option maxHeartbeats 1000000 in
/-- A word, cut out of the text, laid. -/
theorem bar_yes (base g : Nat) (s : ByteArray) (i j : Nat) (Ls : List (List Sx)) (L : List Sx) (bs : List Nat) (S : Nat → Nat → Prop) (w : World)
    (h : RS w base g s i (Ls ++ [L]) bs S) (hi : i < s.size) (hs : s.size ≤ 100000) (hj : j = scan notBar s.data.toList (i + 1)) (hjs : j < s.size) (hb : s[j] = 124) (hL : L.length ≤ 100000) (hLs : Ls.length ≤ 1000) (hbase : base ≤ w.heap.size) :
    Calls Tryd.prog 39 #[.pointer (some ⟨g, 0, none⟩)] w fun e w' => e = .returned .nilIface ∧ (∃ S', RS w' base g s (j + 1) (Ls ++ [L ++ [wordSx (cut s.data.toList i (j + 1))]]) bs S') ∧ Below base w w' := by
  obtain ⟨vo, vb, hg, hgb⟩ := h.cells
  have hl : s.data.toList.length = s.size := by rw [Array.length_toList]; rfl
  have hij : i + 1 ≤ j := by rw [hj]; exact scan_ge _ _ _
  have HJ := Aside0.mk hj
  have HS := Aside0.mk h
  have HB := Aside0.mk hb
  clear hj h hb
  have h1 := hg.cell 1 _ rfl
  have f1 := hg.frozen 1
  go_enter Tryd.func39, Tryd.ntmps39
  go_wp2_with fail
  have k1 : Cells (w.setCell ⟨g, 1, none⟩ (.int .i64 ((i + 1 : Nat) : Int))) g 54 [.string s, .int .i64 ((i + 1 : Nat) : Int), vo, vb] := Cells.set hg 1 _
  refine (while_any g 54 notBar _ barF_any s (i + 1) [vo, vb] _ k1 (by omega) (by omega)).mono ?_
  rintro e w1 ⟨rfl, hm1, k2⟩
  rw [← HJ.out] at k2
  go_wp2_with fail
  refine (next_some g 54 s j [vo, vb] w1 k2 hjs).mono ?_
  rintro e w2 ⟨rfl, n2, rfl⟩
  rw [HB.out]
  have h2 := k2.cell 1 _ rfl
  have f2 := k2.frozen 1
  go_wp2_with fail
  have k3 : Cells ((w1.drewN n2).setCell ⟨g, 1, none⟩ (.int .i64 ((j + 1 : Nat) : Int))) g 54 [.string s, .int .i64 ((j + 1 : Nat) : Int), vo, vb] := Cells.set (k2.drewN n2) 1 _
  have hmA : Mod (fun k => k = g) w ((w1.drewN n2).setCell ⟨g, 1, none⟩ (.int .i64 ((j + 1 : Nat) : Int))) := ((((Mod.refl (fun k => k = g) w).setCell (p := ⟨g, 1, none⟩) (.inl rfl) (.int .i64 ((i + 1 : Nat) : Int))).trans hm1).drewN n2).setCell (.inl rfl) _
  have hRS : Aside0 (RS ((w1.drewN n2).setCell ⟨g, 1, none⟩ (.int .i64 ((j + 1 : Nat) : Int))) base g s (j + 1) (Ls ++ [L]) bs S) := ⟨HS.out.keep hmA (fun vo' vb' q => by
    obtain ⟨_, e⟩ := q.ty hg
    simp at e
    rw [e.1, e.2]; exact k3)⟩
  have hmB := hmA.belowB (B := base) (fun k hk => hk ▸ hgb) hbase
  generalize hW : (w1.drewN n2).setCell ⟨g, 1, none⟩ (.int .i64 ((j + 1 : Nat) : Int)) = W at k3 hRS hmB hmA
  have hW' : (w1.drewN n2).setCell ⟨g, 1, none⟩ (.int .i64 ((j : Int) + 1)) = W := hW
  rw [hW']
  clear hW hW' hmA
  have hb1 : (0 : Int) ≤ (i : Int) := by omega
  have hb2 : (i : Int) ≤ (j : Int) + 1 := by omega
  have hb3 : (j : Int) + 1 ≤ (s.size : Int) := by omega
  refine wp_plan [(0, 0), (0, 1), (0, 2), (0, 3), (0, 4), (0, 6), (0, 7), (0, 8), (0, 9), (0, 10), (1, 5), (1, 11), (0, 12), (0, 13), (3, 14)]
    (fun w' => Cells w' g 54 [.string s, .int .i64 ((j + 1 : Nat) : Int), vo, vb]) (by kernel_rfl) (by kernel_rfl) (fun _ _ d _ _ h => by cases d <;> exact h) k3.drew ?_
  simp only [planOps, List.filterMap_cons, List.filterMap_nil, List.getElem?_toArray, List.getElem?_cons_zero, List.getElem?_cons_succ, Option.map_some]
  repeat (first
    | (refine' plan_pu _ (by rfl) (fun w' => ?_) ?_; rotate_left 1; (focus (go_simp; try (with_reducible rfl))); simp only [Act.put, List.setIfInBounds_toArray, List.set_cons_zero, List.set_cons_succ])
    | (refine' plan_ld _ (by rfl) (fun w' hSw => ?_) ?_; rotate_left 1; (focus ((try dsimp only at hSw); have c1 := hSw.cell 0 _ rfl; have c2 := hSw.cell 1 _ rfl; go_simp; try (with_reducible rfl))); simp only [Act.put, List.setIfInBounds_toArray, List.set_cons_zero, List.set_cons_succ]))
  refine plan_fi (fun K hK => ?_)
  go_simp
  rw [show s.extract i (j + 1) = cut s.data.toList i (j + 1) from extract_cut s i (j + 1)]
  have hcut : (cut s.data.toList i (j + 1)).size ≤ 9223372036854775807 := by
    rw [← extract_cut, ByteArray.size_extract]; omega
  refine (lays_any base g s (j + 1) Ls L bs S (wordSx (cut s.data.toList i (j + 1))) [.string (cut s.data.toList i (j + 1)), .bool false, .slice none 0 0] (fun _ => False) _ (hRS.out.drewN 1) (RT_word _ _ _ hcut) (fun k hk => hk.elim) hL hLs (Nat.le_trans hbase hmB.size)).mono ?_
  rintro e w3 ⟨rfl, hRS', hB'⟩
  refine hK.out _ _ (plan_nil ?_)
  clear hK K
  go_wp2
  go_returns
  exact ⟨rfl, hRS', hmB.trans ((pw_below_drewN (Below.refl _ _) 1).trans hB')⟩

set_option maxHeartbeats 1000000 in
/-- No second bar on the line. -/
theorem bar_no (base g : Nat) (s : ByteArray) (i j : Nat) (Ls : List (List Sx)) (bs : List Nat) (S : Nat → Nat → Prop) (w : World)
    (h : RS w base g s i Ls bs S) (hi : i < s.size) (hs : s.size ≤ 100000) (hj : j = scan notBar s.data.toList (i + 1)) (hb : ∀ h : j < s.size, s[j] ≠ 124) (hbase : base ≤ w.heap.size) :
    Calls Tryd.prog 39 #[.pointer (some ⟨g, 0, none⟩)] w fun e w' => (∃ v, e = .returned v ∧ ErrV w' v i 22) ∧ Below base w w' := by
  obtain ⟨vo, vb, hg, hgb⟩ := h.cells
  have hl : s.data.toList.length = s.size := by rw [Array.length_toList]; rfl
  have HJ := Aside0.mk hj
  clear hj
  have HB : Aside0 (((nextV s j).1 = .int .u8 0) ∨ ∃ b : UInt8, (nextV s j).1 = .int .u8 (b.toNat : Int) ∧ b ≠ 124) := ⟨by
    by_cases h : j < s.size
    · rw [nextV_yes h]; exact .inr ⟨_, rfl, hb h⟩
    · rw [nextV_no h]; exact .inl rfl⟩
  clear hb h
  have h1 := hg.cell 1 _ rfl
  have f1 := hg.frozen 1
  go_enter Tryd.func39, Tryd.ntmps39
  go_wp2_with fail
  have k1 : Cells (w.setCell ⟨g, 1, none⟩ (.int .i64 ((i + 1 : Nat) : Int))) g 54 [.string s, .int .i64 ((i + 1 : Nat) : Int), vo, vb] := Cells.set hg 1 _
  refine (while_any g 54 notBar _ barF_any s (i + 1) [vo, vb] _ k1 (by omega) (by omega)).mono ?_
  rintro e w1 ⟨rfl, hm1, k2⟩
  rw [← HJ.out] at k2
  go_wp2_with fail
  refine (next_any g 54 s j [vo, vb] w1 k2).mono ?_
  rintro e w2 ⟨rfl, n2, rfl⟩
  have hm2 : Mod (fun k => k = g) w (w1.drewN n2) := (((Mod.refl (fun k => k = g) w).setCell (p := ⟨g, 1, none⟩) (.inl rfl) (.int .i64 ((i + 1 : Nat) : Int))).trans hm1).drewN n2
  have hmB := Aside0.mk (hm2.belowB (B := base) (fun k hk => hk ▸ hgb) hbase)
  clear hm1 hm2 k2 k1 h1 f1
  have fin : ∀ w3, w3 = (w1.drewN n2).alloc (.cells #[.int .i64 (i : Int), .int .i64 22] 65) → ErrV w3 (.iface 61 (.pointer (some ⟨w1.heap.size, 0, none⟩))) i 22 ∧ Below base w w3 := by
    rintro w3 rfl
    exact ⟨⟨_, rfl, Cells.new (w1.drewN n2) _ _⟩, hmB.out.alloc (Nat.le_trans hbase hmB.out.size) _⟩
  have FIN := Aside0.mk fin
  clear fin
  rcases HB.out with h0 | ⟨b, h0, hb⟩
  · rw [h0]
    go_wp2_with fail
    refine (wrong_any (i : Int) 22 _).mono ?_
    rintro e w3 ⟨rfl, rfl⟩
    go_wp2
    go_returns
    exact ⟨⟨_, rfl, (FIN.out _ rfl).1⟩, (FIN.out _ rfl).2⟩
  · rw [h0]
    have hne : ((b.toNat : Int) != 124) = true := by
      simp only [bne_iff_ne, ne_eq]; intro h; exact hb (UInt8.toNat_inj.1 (by simpa using (by omega : b.toNat = 124)))
    go_wp2_with fail
    refine (wrong_any (i : Int) 22 _).mono ?_
    rintro e w3 ⟨rfl, rfl⟩
    go_wp2
    go_returns
    exact ⟨⟨_, rfl, (FIN.out _ rfl).1⟩, (FIN.out _ rfl).2⟩
end Go.Proofs.YtdhfjaekhibaaaaDoor
