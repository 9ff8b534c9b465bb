/-
One step of the reader: blanks, remarks, words, and what is no word. Conditions: the text's length, the lists' lengths.
-/
import Derived.Test.YtdhfjaekhibaaaaDoorBar
namespace Go.Proofs.YtdhfjaekhibaaaaDoor
set_option maxRecDepth 4096
open Go.RowKit Go.Proofs.YtdhfjaekhibaaaaDoorW.PrintWords

theorem ne_int {b : UInt8} (k : UInt8) (h : b ≠ k) : ((b.toNat : Int) == (k.toNat : Int)) = false := by
  rw [beq_eq_false_iff_ne]; intro e; exact h (UInt8.toNat_inj.1 (by omega))

set_option maxHeartbeats 1000000 in
theorem step_blank (base g : Nat) (s : ByteArray) (i : Nat) (b : UInt8) (Ls : List (List Sx)) (bs : List Nat) (S : Nat → Nat → Prop) (w : World)
    (h : RS w base g s i Ls bs S) (hi : i < s.size) (hs : s.size ≤ 100000) (hb : blankB b = true) (hbase : base ≤ w.heap.size) :
    Calls Tryd.prog 26 #[.pointer (some ⟨g, 0, none⟩), .int .u8 (b.toNat : Int)] w fun e w' => e = .returned .nilIface ∧ RS w' base g s (i + 1) Ls bs S ∧ Below base w w' := by
  obtain ⟨vo, vb, hg, hgb⟩ := h.cells
  have HS := Aside0.mk h
  have HB := Aside0.mk hb
  clear h hb
  have h1 := hg.cell 1 _ rfl
  have f1 := hg.frozen 1
  go_enter Tryd.func26, Tryd.ntmps26
  go_wp2_with fail
  refine (blank_any.calls b _).mono ?_
  rintro e w1 ⟨rfl, n1, rfl⟩
  rw [HB.out]
  go_wp2_with fail
  go_returns
  have hm : Mod (fun k => k = g) w ((w.drewN n1).setCell ⟨g, 1, none⟩ (.int .i64 ((i + 1 : Nat) : Int))) := ((Mod.refl (fun k => k = g) w).drewN n1).setCell (.inl rfl) _
  refine ⟨rfl, HS.out.keep hm (fun vo' vb' q => ?_), hm.belowB (fun k hk => hk ▸ hgb) hbase⟩
  exact Cells.set (q.drewN n1) 1 _

set_option maxHeartbeats 1000000 in
theorem step_remark (base g : Nat) (s : ByteArray) (i : Nat) (Ls : List (List Sx)) (bs : List Nat) (S : Nat → Nat → Prop) (w : World)
    (h : RS w base g s i Ls bs S) (hi : i < s.size) (hs : s.size ≤ 100000) (hbase : base ≤ w.heap.size) :
    Calls Tryd.prog 26 #[.pointer (some ⟨g, 0, none⟩), .int .u8 59] w fun e w' => e = .returned .nilIface ∧ RS w' base g s (scan notEol s.data.toList i) Ls bs S ∧ Below base w w' := by
  obtain ⟨vo, vb, hg, hgb⟩ := h.cells
  have HS := Aside0.mk h
  clear h
  have h1 := hg.cell 1 _ rfl
  have f1 := hg.frozen 1
  go_enter Tryd.func26, Tryd.ntmps26
  go_wp2_with fail
  refine (blank_any.calls 59 _).mono ?_
  rintro e w1 ⟨rfl, n1, rfl⟩
  rw [show blankB 59 = false from rfl]
  go_wp2_with fail
  refine (while_any g 54 notEol _ stepF_any s i [vo, vb] _ (hg.drewN n1) (by omega) (by omega)).mono ?_
  rintro e w2 ⟨rfl, hm1, k2⟩
  go_wp2_with fail
  go_returns
  have hm : Mod (fun k => k = g) w w2 := ((Mod.refl (fun k => k = g) w).drewN n1).trans hm1
  refine ⟨rfl, HS.out.keep hm (fun vo' vb' q => ?_), hm.belowB (fun k hk => hk ▸ hgb) hbase⟩
  obtain ⟨_, e⟩ := q.ty hg
  simp at e
  rw [e.1, e.2]; exact k2

set_option maxHeartbeats 1000000 in
theorem step_bar_yes (base g : Nat) (s : ByteArray) (i j : Nat) (Ls : List (List Sx)) (L : List Sx) (bs : List Nat) (S : Nat → Nat → Prop) (w : World)
    (h : RS w base g s i (Ls ++ [L]) bs S) (hi : i < s.size) (hs : s.size ≤ 100000) (hj : j = scan notBar s.data.toList (i + 1)) (hjs : j < s.size) (hb : s[j] = 124) (hL : L.length ≤ 100000) (hLs : Ls.length ≤ 1000) (hbase : base ≤ w.heap.size) :
    Calls Tryd.prog 26 #[.pointer (some ⟨g, 0, none⟩), .int .u8 124] w fun e w' => e = .returned .nilIface ∧ (∃ S', RS w' base g s (j + 1) (Ls ++ [L ++ [wordSx (cut s.data.toList i (j + 1))]]) bs S') ∧ Below base w w' := by
  obtain ⟨vo, vb, hg, hgb⟩ := h.cells
  have HC := fun n1 => Aside0.mk (bar_yes base g s i j Ls L bs S (w.drewN n1) (h.drewN n1) hi hs hj hjs hb hL hLs hbase)
  clear h hj hjs hb
  have h1 := hg.cell 1 _ rfl
  have HCC := Aside0.mk HC
  clear HC
  go_enter Tryd.func26, Tryd.ntmps26
  go_wp2_with fail
  refine (blank_any.calls 124 _).mono ?_
  rintro e w1 ⟨rfl, n1, rfl⟩
  rw [show blankB 124 = false from rfl]
  go_wp2_with fail
  refine (HCC.out n1).out.mono ?_
  rintro e w2 ⟨rfl, hR, hB⟩
  go_wp2_with fail
  go_returns
  exact ⟨rfl, hR, (pw_below_drewN (Below.refl _ _) n1).trans hB⟩

set_option maxHeartbeats 1000000 in
theorem step_bar_no (base g : Nat) (s : ByteArray) (i j : Nat) (Ls : List (List Sx)) (bs : List Nat) (S : Nat → Nat → Prop) (w : World)
    (h : RS w base g s i Ls bs S) (hi : i < s.size) (hs : s.size ≤ 100000) (hj : j = scan notBar s.data.toList (i + 1)) (hb : ∀ h : j < s.size, s[j] ≠ 124) (hbase : base ≤ w.heap.size) :
    Calls Tryd.prog 26 #[.pointer (some ⟨g, 0, none⟩), .int .u8 124] w fun e w' => (∃ v, e = .returned v ∧ ErrV w' v i 22) ∧ Below base w w' := by
  obtain ⟨vo, vb, hg, hgb⟩ := h.cells
  have HC := fun n1 => Aside0.mk (bar_no base g s i j Ls bs S (w.drewN n1) (h.drewN n1) hi hs hj hb hbase)
  clear h hj hb
  have h1 := hg.cell 1 _ rfl
  have HCC := Aside0.mk HC
  clear HC
  go_enter Tryd.func26, Tryd.ntmps26
  go_wp2_with fail
  refine (blank_any.calls 124 _).mono ?_
  rintro e w1 ⟨rfl, n1, rfl⟩
  rw [show blankB 124 = false from rfl]
  go_wp2_with fail
  refine (HCC.out n1).out.mono ?_
  rintro e w2 ⟨⟨v, rfl, hv⟩, hB⟩
  have HV := Aside0.mk hv
  clear hv
  go_wp2_with fail
  go_returns
  exact ⟨⟨_, rfl, HV.out⟩, (pw_below_drewN (Below.refl _ _) n1).trans hB⟩

set_option maxHeartbeats 1000000 in
theorem step_bad (base g : Nat) (s : ByteArray) (i : Nat) (b : UInt8) (Ls : List (List Sx)) (bs : List Nat) (S : Nat → Nat → Prop) (w : World)
    (h : RS w base g s i Ls bs S) (h0 : blankB b = false) (h1 : b ≠ 59) (h2 : b ≠ 40) (h3 : b ≠ 41) (h4 : b ≠ 124) (h5 : plainB b = false) (hbase : base ≤ w.heap.size) :
    Calls Tryd.prog 26 #[.pointer (some ⟨g, 0, none⟩), .int .u8 (b.toNat : Int)] w fun e w' => (∃ v, e = .returned v ∧ ErrV w' v i 22) ∧ Below base w w' := by
  obtain ⟨vo, vb, hg, hgb⟩ := h.cells
  have e1 : ((b.toNat : Int) == 59) = false := ne_int 59 h1
  have e2 : ((b.toNat : Int) == 40) = false := ne_int 40 h2
  have e3 : ((b.toNat : Int) == 41) = false := ne_int 41 h3
  have e4 : ((b.toNat : Int) == 124) = false := ne_int 124 h4
  have H0 := Aside0.mk h0
  have H5 := Aside0.mk h5
  clear h h0 h1 h2 h3 h4 h5
  have k1 := hg.cell 1 _ rfl
  go_enter Tryd.func26, Tryd.ntmps26
  go_wp2_with fail
  refine (blank_any.calls b _).mono ?_
  rintro e w1 ⟨rfl, n1, rfl⟩
  rw [H0.out]
  go_wp2_with fail
  refine (plain_any.calls b _).mono ?_
  rintro e w1 ⟨rfl, n2, rfl⟩
  rw [H5.out]
  go_wp2_with fail
  refine (wrong_any (i : Int) 22 _).mono ?_
  rintro e w3 ⟨rfl, rfl⟩
  go_wp2_with fail
  go_returns
  exact ⟨⟨_, rfl, _, rfl, Cells.new (w.drewN (n1 + n2)) _ _⟩, (pw_below_drewN (Below.refl _ _) (n1 + n2)).alloc hbase _⟩

set_option maxHeartbeats 1000000 in
theorem step_word (base g : Nat) (s : ByteArray) (i j : Nat) (b : UInt8) (Ls : List (List Sx)) (L : List Sx) (bs : List Nat) (S : Nat → Nat → Prop) (w : World)
    (h : RS w base g s i (Ls ++ [L]) bs S) (hi : i < s.size) (hs : s.size ≤ 100000) (hj : j = scan plainB s.data.toList i) (h0 : blankB b = false) (h1 : b ≠ 59) (h2 : b ≠ 40) (h3 : b ≠ 41) (h4 : b ≠ 124) (h5 : plainB b = true)
    (hL : L.length ≤ 100000) (hLs : Ls.length ≤ 1000) (hbase : base ≤ w.heap.size) :
    Calls Tryd.prog 26 #[.pointer (some ⟨g, 0, none⟩), .int .u8 (b.toNat : Int)] w fun e w' => e = .returned .nilIface ∧ (∃ S', RS w' base g s j (Ls ++ [L ++ [wordSx (cut s.data.toList i j)]]) bs S') ∧ Below base w w' := by
  obtain ⟨vo, vb, hg, hgb⟩ := h.cells
  have hl : s.data.toList.length = s.size := by rw [Array.length_toList]; rfl
  have hij : i ≤ j := by rw [hj]; exact scan_ge _ _ _
  have hjs : j ≤ s.size := by rw [hj, ← hl]; exact scan_le _ _ _ (by omega)
  have e1 : ((b.toNat : Int) == 59) = false := ne_int 59 h1
  have e2 : ((b.toNat : Int) == 40) = false := ne_int 40 h2
  have e3 : ((b.toNat : Int) == 41) = false := ne_int 41 h3
  have e4 : ((b.toNat : Int) == 124) = false := ne_int 124 h4
  have H0 := Aside0.mk h0
  have H5 := Aside0.mk h5
  have HJ := Aside0.mk hj
  have HS := Aside0.mk h
  clear h h0 h1 h2 h3 h4 h5 hj
  have k1 := hg.cell 1 _ rfl
  go_enter Tryd.func26, Tryd.ntmps26
  go_wp2_with fail
  refine (blank_any.calls b _).mono ?_
  rintro e w1 ⟨rfl, n1, rfl⟩
  rw [H0.out]
  go_wp2_with fail
  refine (plain_any.calls b _).mono ?_
  rintro e w1 ⟨rfl, n2, rfl⟩
  rw [H5.out]
  go_wp2_with fail
  refine (while_any g 54 plainB _ plain_any s i [vo, vb] _ (hg.drewN (n1 + n2)) (by omega) (by omega)).mono ?_
  rintro e W ⟨rfl, hm1, k3⟩
  rw [← HJ.out] at k3
  have hmA : Mod (fun k => k = g) w W := ((Mod.refl (fun k => k = g) w).drewN (n1 + n2)).trans hm1
  have hRS : Aside0 (RS W base g s j (Ls ++ [L]) bs S) := ⟨HS.out.keep hmA (fun vo' vb' q => by
    obtain ⟨_, e⟩ := q.ty hg
    simp at e
    rw [e.1, e.2]; exact k3)⟩
  have hmB := hmA.belowB (B := base) (fun k hk => hk ▸ hgb) hbase
  clear hmA hm1
  have hb1 : (0 : Int) ≤ (i : Int) := by omega
  have hb2 : (i : Int) ≤ (j : Int) := by omega
  have hb3 : (j : Int) ≤ (s.size : Int) := by omega
  go_wp2_with fail
  refine wp_plan [(0, 0), (0, 1), (0, 2), (0, 3), (0, 4), (0, 6), (0, 7), (0, 8), (0, 9), (0, 10), (1, 5), (1, 11), (0, 12), (0, 13), (3, 14)]
    (fun w' => Cells w' g 54 [.string s, .int .i64 (j : Int), vo, vb]) (by kernel_rfl) (by kernel_rfl) (fun _ _ d _ _ h => by cases d <;> exact h) k3.drew ?_
  simp only [planOps, List.filterMap_cons, List.filterMap_nil, List.getElem?_toArray, List.getElem?_cons_zero, List.getElem?_cons_succ, Option.map_some]
  repeat (first
    | (refine' plan_pu _ (by rfl) (fun w' => ?_) ?_; rotate_left 1; (focus (go_simp; try (with_reducible rfl))); simp only [Act.put, List.setIfInBounds_toArray, List.set_cons_zero, List.set_cons_succ])
    | (refine' plan_ld _ (by rfl) (fun w' hSw => ?_) ?_; rotate_left 1; (focus ((try dsimp only at hSw); have c1 := hSw.cell 0 _ rfl; have c2 := hSw.cell 1 _ rfl; go_simp; try (with_reducible rfl))); simp only [Act.put, List.setIfInBounds_toArray, List.set_cons_zero, List.set_cons_succ]))
  refine plan_fi (fun K hK => ?_)
  go_simp
  rw [show s.extract i j = cut s.data.toList i j from extract_cut s i j]
  have hcut : (cut s.data.toList i j).size ≤ 9223372036854775807 := by
    rw [← extract_cut, ByteArray.size_extract]; omega
  refine (lays_any base g s j Ls L bs S (wordSx (cut s.data.toList i j)) [.string (cut s.data.toList i j), .bool false, .slice none 0 0] (fun _ => False) _ (hRS.out.drewN 1) (RT_word _ _ _ hcut) (fun k hk => hk.elim) hL hLs (Nat.le_trans hbase hmB.size)).mono ?_
  rintro e w3 ⟨rfl, hRS', hB'⟩
  refine hK.out _ _ (plan_nil ?_)
  clear hK K
  go_wp2
  go_returns
  exact ⟨rfl, hRS', hmB.trans ((pw_below_drewN (Below.refl _ _) 1).trans hB')⟩
end Go.Proofs.YtdhfjaekhibaaaaDoor
