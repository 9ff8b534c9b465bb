/-
Several texts as one: Gbv Gin.
-/
import Derived.Test.YthhnhbpmpdminaaGreatDoorXI
import Derived.Laws.Bits64b
import Derived.Laws.BitsAllLaws
import Derived.Test.YthhnhbpmpdminaaGreatDoorXH
import Derived.Maps.OwnOps
import Derived.Maps.OwnSet
import Derived.Maps.Views
import Derived.DeepKeys4
/-
bv: numbers of 128 bits: not, right, left, mask, cut, Right, New. Conditions: stated with each.
-/
namespace Go.Proofs.YthhnhbpmpdminaaGreatDoor
set_option maxRecDepth 4096
set_option maxHeartbeats 8000000
set_option linter.unusedSimpArgs false
set_option linter.unusedVariables false
set_option linter.unnecessarySimpa false
open Go.RowKit Go.Proofs.YthhnhbpmpdminaaGreatDoorW.PrintWords Go.Proofs.YthhnhbpmpdminaaGreatDoorW.PrintMore PReadTwice
def nlo (n : Nat) : Int := ((n % 18446744073709551616 : Nat) : Int)
def nhi (n : Nat) : Int := ((n / 18446744073709551616 : Nat) : Int)
def numV2 (n : Nat) : Value := .agg #[.int .u64 (nlo n), .int .u64 (nhi n)]
theorem mask_f : ∀ w : Nat, w < 129 → bv_number_right.f 18446744073709551615 18446744073709551615 (128 - (w : Int)) = some (nlo (2 ^ w - 1), nhi (2 ^ w - 1)) :=
  of_decide_eq_true (by kernel_rfl)
theorem not_any (W : World) : Calls Tryz.prog 259 #[.agg #[.int .u64 0, .int .u64 0]] W fun e W' => e = .returned (.agg #[.int .u64 18446744073709551615, .int .u64 18446744073709551615]) ∧ Below W.heap.size W W' := by
  go_enter Tryz.func259, Tryz.ntmps259
  go_wp2_with fail
  have hx : bits BinOp.xor .u64 (IntKind.max .u64) 0 = 18446744073709551615 := by kernel_rfl
  rw [hx]
  go_returns
  exact ⟨rfl, (((Below.refl _ W).alloc (Nat.le_refl _) _).alloc (by simp) _)⟩
theorem right_mask_any (k : Nat) (hk : k ≤ 128) (W : World) : Calls Tryz.prog 260 #[.agg #[.int .u64 18446744073709551615, .int .u64 18446744073709551615], .int .i64 (128 - (k : Int))] W fun e W' => e = .returned (numV2 (2 ^ k - 1)) ∧ Below W.heap.size W W' :=
  bv_number_right.calls _ _ _ _ _ _ (mask_f k (by omega))
theorem mask_any (k : Nat) (hk : k ≤ 128) (W : World) : Calls Tryz.prog 236 #[.int .i64 (k : Int)] W fun e W' => e = .returned (numV2 (2 ^ k - 1)) ∧ Below W.heap.size W W' := by
  have hw : wrap64 (128 - (k : Int)) = 128 - (k : Int) := by unfold wrap64; omega
  have hc := Cells.new W 285 [.int .u64 0, .int .u64 0]
  have hb := (Below.refl _ W).alloc (Nat.le_refl _) (.cells #[.int .u64 0, .int .u64 0] 285)
  have HC := Aside0.mk hc
  have HW := Aside0.mk hb
  clear hc hb
  go_enter Tryz.func236, Tryz.ntmps236
  go_wp2_with fail
  refine (not_any _).mono ?_
  rintro e w1 ⟨rfl, hB⟩
  have HC1 := Aside0.mk (HC.out.below hB)
  have HB1 := Aside0.mk (HW.out.trans (hB.mono (by simp)))
  clear hB
  go_wp2_with fail
  refine (right_mask_any k hk _).mono ?_
  rintro e w2 ⟨rfl, hB⟩
  have HC2 := Aside0.mk (HC1.out.below hB)
  have HB2 := Aside0.mk (HB1.out.trans (hB.mono HB1.out.size))
  have q0 := HC2.out.cell 0 _ rfl
  have q1 := HC2.out.cell 1 _ rfl
  have f0 := HC2.out.frozen 0
  have f1 := HC2.out.frozen 1
  clear hB
  unfold numV2
  obtain ⟨x, hx⟩ : ∃ x, nlo (2 ^ k - 1) = x := ⟨_, rfl⟩
  obtain ⟨y, hy⟩ : ∃ y, nhi (2 ^ k - 1) = y := ⟨_, rfl⟩
  rw [hx, hy]
  have HX := Aside0.mk hx
  have HY := Aside0.mk hy
  clear hx hy
  go_wp2_with fail
  have HF := (HC2.out.set 0 (.int .u64 x)).set 1 (.int .u64 y)
  have HB3 := (HB2.out.setCell (p := ⟨W.heap.size, 0, none⟩) (Nat.le_refl _) (.int .u64 x)).setCell (p := ⟨W.heap.size, 1, none⟩) (Nat.le_refl _) (.int .u64 y)
  refine bodyPost_ret (results_cell_row rfl _ _ W.heap.size 285 #[.int .u64 x, .int .u64 y] (0, 0) _ rfl HF Tryz.underlying285 rfl (by kernel_rfl)) rfl ?_
  exact ⟨by unfold numV2; rw [HX.out, HY.out], HB3⟩
/-- The lowest bits. -/
theorem and_mask (n k : Nat) (hn : n < 2 ^ 128) (hk : k ≤ 128) : bits .and .u64 (nlo n) (nlo (2 ^ k - 1)) = nlo (n % 2 ^ k) ∧ bits .and .u64 (nhi n) (nhi (2 ^ k - 1)) = nhi (n % 2 ^ k) := by
  have ha : n % 18446744073709551616 < 18446744073709551616 := Nat.mod_lt _ (by decide)
  have hb : n / 18446744073709551616 < 18446744073709551616 := Nat.div_lt_of_lt_mul (by rw [show 18446744073709551616 * 18446744073709551616 = 2 ^ 128 by decide]; exact hn)
  have hm : (2 ^ k - 1) % 18446744073709551616 < 18446744073709551616 := Nat.mod_lt _ (by decide)
  have hkp : 2 ^ k ≤ 2 ^ 128 := Nat.pow_le_pow_right (by decide) hk
  have hp : 0 < 2 ^ k := Nat.two_pow_pos k
  have hm2 : (2 ^ k - 1) / 18446744073709551616 < 18446744073709551616 := Nat.div_lt_of_lt_mul (by rw [show 18446744073709551616 * 18446744073709551616 = 2 ^ 128 by decide]; omega)
  unfold nlo nhi
  rw [bits_and_u64_nat _ _ ha hm, bits_and_u64_nat _ _ hb hm2]
  have e : ∀ x : Nat, x % 18446744073709551616 = x % 2 ^ 64 := fun _ => rfl
  have e2 : ∀ x : Nat, x / 18446744073709551616 = x / 2 ^ 64 := fun _ => rfl
  simp only [e, e2]
  rw [← Nat.and_two_pow_sub_one_eq_mod n k, Nat.and_mod_two_pow, Nat.and_div_two_pow]
  exact ⟨rfl, rfl⟩
def bitsV (k n : Nat) : Value := .agg #[.int .i64 (k : Int), .int .u64 (nlo n), .int .u64 (nhi n)]
theorem cut_bits_any (k n : Nat) (hk : k ≤ 128) (hn : n < 2 ^ 128) (W : World) : Calls Tryz.prog 191 #[.int .i64 (k : Int), numV2 n] W fun e W' => e = .returned (bitsV k (n % 2 ^ k)) ∧ Below W.heap.size W W' := by
  obtain ⟨e1, e2⟩ := and_mask n k hn hk
  obtain ⟨r1, hr1⟩ : ∃ x, nlo (n % 2 ^ k) = x := ⟨_, rfl⟩
  obtain ⟨r2, hr2⟩ : ∃ x, nhi (n % 2 ^ k) = x := ⟨_, rfl⟩
  obtain ⟨a, ha⟩ : ∃ x, nlo n = x := ⟨_, rfl⟩
  obtain ⟨b, hb⟩ : ∃ x, nhi n = x := ⟨_, rfl⟩
  obtain ⟨m1, hm1⟩ : ∃ x, nlo (2 ^ k - 1) = x := ⟨_, rfl⟩
  obtain ⟨m2, hm2⟩ : ∃ x, nhi (2 ^ k - 1) = x := ⟨_, rfl⟩
  have HV : Aside0 (bitsV k (n % 2 ^ k) = .agg #[.int .i64 (k : Int), .int .u64 r1, .int .u64 r2]) := ⟨by unfold bitsV; rw [hr1, hr2]⟩
  rw [HV.out]
  unfold numV2
  rw [ha, hb]
  rw [ha, hr1, hm1] at e1
  rw [hb, hr2, hm2] at e2
  have HM : Aside0 (numV2 (2 ^ k - 1) = .agg #[.int .u64 m1, .int .u64 m2]) := ⟨by unfold numV2; rw [hm1, hm2]⟩
  clear hr1 hr2 ha hb hm1 hm2
  have hc1 := (Cells.new W 285 [.int .u64 a, .int .u64 b]).alloc (.cells #[.int .i64 0, .int .u64 0, .int .u64 0] 110)
  have hc2 : Cells ((W.alloc (.cells #[.int .u64 a, .int .u64 b] 285)).alloc (.cells #[.int .i64 0, .int .u64 0, .int .u64 0] 110)) (W.heap.size + 1) 110 [.int .i64 0, .int .u64 0, .int .u64 0] := by
    have := Cells.new (W.alloc (.cells #[.int .u64 a, .int .u64 b] 285)) 110 [.int .i64 0, .int .u64 0, .int .u64 0]
    simpa using this
  have hb := ((Below.refl _ W).alloc (Nat.le_refl _) (.cells #[.int .u64 a, .int .u64 b] 285)).alloc (by simp) (.cells #[.int .i64 0, .int .u64 0, .int .u64 0] 110)
  have HC1 := Aside0.mk hc1
  have HC2 := Aside0.mk hc2
  have HW := Aside0.mk hb
  clear hc1 hc2 hb
  go_enter Tryz.func191, Tryz.ntmps191
  go_wp2_with fail
  refine (mask_any k hk _).mono ?_
  rintro e w1 ⟨rfl, hB⟩
  rw [HM.out]
  have HC3 := Aside0.mk (HC1.out.below hB)
  have HC4 := Aside0.mk (HC2.out.below hB)
  have HB1 := Aside0.mk (HW.out.trans (hB.mono (by simp; omega)))
  clear hB
  have HC5 := Aside0.mk (HC3.out.alloc (.cells #[.int .u64 m1, .int .u64 m2] 285))
  have HC6 := Aside0.mk (HC4.out.alloc (.cells #[.int .u64 m1, .int .u64 m2] 285))
  have HB2 := Aside0.mk (HB1.out.alloc HB1.out.size (.cells #[.int .u64 m1, .int .u64 m2] 285))
  have q0 := HC5.out.cell 0 _ rfl
  have q1 := HC5.out.cell 1 _ rfl
  have p0 := HC6.out.cell 0 _ rfl
  have p1 := HC6.out.cell 1 _ rfl
  have p2 := HC6.out.cell 2 _ rfl
  have f0 := HC6.out.frozen 0
  have f1 := HC6.out.frozen 1
  have f2 := HC6.out.frozen 2
  go_wp2_with fail
  have HF := ((HC6.out.set 0 (.int .i64 (k : Int))).set 1 (.int .u64 r1)).set 2 (.int .u64 r2)
  have HB3 := ((HB2.out.setCell (p := ⟨W.heap.size + 1, 0, none⟩) (by simp) (.int .i64 (k : Int))).setCell (p := ⟨W.heap.size + 1, 1, none⟩) (by simp) (.int .u64 r1)).setCell (p := ⟨W.heap.size + 1, 2, none⟩) (by simp) (.int .u64 r2)
  refine bodyPost_ret (results_cell_row rfl _ _ (W.heap.size + 1) 110 #[.int .i64 (k : Int), .int .u64 r1, .int .u64 r2] (0, 0) _ rfl HF Tryz.underlying110 rfl (by kernel_rfl)) rfl ?_
  exact ⟨rfl, HB3⟩
theorem of_any (w a b : Int) (W : World) : Calls Tryz.prog 192 #[.agg #[.int .i64 w, .int .u64 a, .int .u64 b]] W fun e W' => e = .returned (.agg #[.int .u64 a, .int .u64 b]) ∧ Below W.heap.size W W' := bv_of.calls w a b a b W rfl
theorem nat_parts (lo hi : Int) (h1 : u64ok lo) (h2 : u64ok hi) : ∃ n : Nat, n < 2 ^ 128 ∧ lo = nlo n ∧ hi = nhi n ∧ (n : Int) = lo + hi * 18446744073709551616 := by
  obtain ⟨a, rfl⟩ := Int.eq_ofNat_of_zero_le h1.1
  obtain ⟨b, rfl⟩ := Int.eq_ofNat_of_zero_le h2.1
  have h1 := h1.2
  have h2 := h2.2
  refine ⟨a + b * 18446744073709551616, ?_, ?_, ?_, by simp⟩
  · rw [show (2 : Nat) ^ 128 = 18446744073709551616 * 18446744073709551616 by decide]; omega
  · unfold nlo; omega
  · unfold nhi; omega
theorem nparts_inj {m n : Nat} (h1 : nlo m = nlo n) (h2 : nhi m = nhi n) : m = n := by unfold nlo nhi at *; omega
theorem Right_any (x : Int) (lo hi : Int) (W : World) (hx : i64ok x) (h1 : u64ok lo) (h2 : u64ok hi) : Calls Tryz.prog 141 #[.agg #[.int .i64 x, .int .u64 lo, .int .u64 hi]] W fun e W' => e = .returned (.bool (rightV x lo hi)) ∧ Below W.heap.size W W' := by
  obtain ⟨n, hn, el, eh, en⟩ := nat_parts lo hi h1 h2
  have EL := Aside0.mk el
  have EH := Aside0.mk eh
  have EN := Aside0.mk en
  clear el eh en
  obtain ⟨R, hR⟩ : ∃ R, rightV x lo hi = R := ⟨_, rfl⟩
  have HR := Aside0.mk hR
  rw [hR]
  by_cases hx0 : x = 0
  · subst hx0
    rw [rightV, if_pos rfl] at hR
    clear HR
    go_enter Tryz.func141, Tryz.ntmps141
    go_wp2_with fail
    all_goals (
      go_returns
      refine ⟨?_, (Below.refl _ W).alloc (Nat.le_refl _) _⟩
      subst hR
      show Ending.returned (.bool _) = .returned (.bool _)
      congr 2
      rw [Bool.eq_iff_iff]
      simp
      try omega)
  · rw [rightV, if_neg hx0] at hR
    have HR := Aside0.mk hR
    clear hR
    have hc := Cells.new W 110 [.int .i64 x, .int .u64 lo, .int .u64 hi]
    have hb := (Below.refl _ W).alloc (Nat.le_refl _) (.cells #[.int .i64 x, .int .u64 lo, .int .u64 hi] 110)
    have HC := Aside0.mk hc
    have HW := Aside0.mk hb
    clear hc hb
    by_cases hx1 : 0 < x ∧ x ≤ 128
    · go_enter Tryz.func141, Tryz.ntmps141
      go_wp2_with fail
      generalize (W.alloc (.cells #[.int .i64 x, .int .u64 lo, .int .u64 hi] 110)) = w0 at HC HW ⊢
      refine wp_plan [(0, 0), (1, 1), (0, 2), (0, 3), (0, 4), (1, 5), (0, 6), (0, 7), (0, 8), (0, 9), (1, 10), (1, 11), (1, 14), (2, 12), (2, 13), (0, 15), (0, 16), (0, 17)] (fun w' => Cells w' W.heap.size 110 [.int .i64 x, .int .u64 lo, .int .u64 hi]) (by kernel_rfl) (by kernel_rfl) (fun _ _ d _ _ h => by cases d <;> exact h) HC.out.drew ?_
      simp only [planOps, List.filterMap_cons, List.filterMap_nil, List.getElem?_toArray, List.getElem?_cons_zero, List.getElem?_cons_succ, Option.map_some]
      repeat (first
        | (refine' plan_pu _ (by rfl) (fun w' => ?_) ?_; rotate_left 1; (focus (go_simp; try (with_reducible rfl))); (try simp only [wrapi_0, wrapi_1, wrapi_2, wrapi_3, wrapi_4]); simp only [Act.put, List.setIfInBounds_toArray, List.set_cons_zero, List.set_cons_succ])
        | (refine' plan_off (by rfl) ?_; (try simp only [wrapi_0, wrapi_1, wrapi_2, wrapi_3, wrapi_4]); simp only [Act.put, List.setIfInBounds_toArray, List.set_cons_zero, List.set_cons_succ])
        | (refine' plan_offL (by rfl) ?_; (try simp only [wrapi_0, wrapi_1, wrapi_2, wrapi_3, wrapi_4]); simp only [Act.put, List.setIfInBounds_toArray, List.set_cons_zero, List.set_cons_succ])
        | (refine' plan_offE (by rfl) (by first | assumption | exact (by assumption)) ?_; (try simp only [wrapi_0, wrapi_1, wrapi_2, wrapi_3, wrapi_4]); simp only [Act.put, List.setIfInBounds_toArray, List.set_cons_zero, List.set_cons_succ])
        | (refine' plan_ld _ (by rfl) (fun w' hSw => ?_) ?_; rotate_left 1; (focus ((try dsimp only at hSw); have c0 := hSw.cell 0 _ rfl; have c1 := hSw.cell 1 _ rfl; have c2 := hSw.cell 2 _ rfl; go_simp; try (with_reducible rfl))); (try simp only [wrapi_0, wrapi_1, wrapi_2, wrapi_3, wrapi_4]); simp only [Act.put, List.setIfInBounds_toArray, List.set_cons_zero, List.set_cons_succ]))
      refine plan_ef (fun K hK => ?_)
      go_simp
      refine (of_any x lo hi _).mono ?_
      rintro e w1 ⟨rfl, hB⟩
      have HC1 := Aside0.mk (HC.out.drew.below hB)
      have HW1 := Aside0.mk (HW.out.drew.trans (hB.mono HW.out.size))
      clear hB
      refine hK.out _ _ (HC1.out) (fun _ => ?_)
      clear hK K
      try (try simp only [wrapi_0, wrapi_1, wrapi_2, wrapi_3, wrapi_4]); simp only [Act.put, List.setIfInBounds_toArray, List.set_cons_zero, List.set_cons_succ]
      obtain ⟨k, rfl⟩ := Int.eq_ofNat_of_zero_le (show 0 ≤ x by omega)
      have hkk : k ≤ 128 := by omega
      have HN := Aside0.mk (show Value.agg #[.int .u64 lo, .int .u64 hi] = numV2 n by unfold numV2; rw [EL.out, EH.out])
      refine plan_ef (fun K hK => ?_)
      go_simp
      rw [HN.out]
      refine (cut_bits_any k n hkk hn _).mono ?_
      rintro e w2 ⟨rfl, hB⟩
      have HC2 := Aside0.mk (HC1.out.below hB)
      have HW2 := Aside0.mk (HW1.out.trans (hB.mono HW1.out.size))
      clear hB
      refine hK.out _ _ (HC2.out) (fun _ => ?_)
      clear hK K
      try (try simp only [wrapi_0, wrapi_1, wrapi_2, wrapi_3, wrapi_4]); simp only [Act.put, List.setIfInBounds_toArray, List.set_cons_zero, List.set_cons_succ]
      unfold bitsV
      refine plan_pu (.bool (decide (nlo (n % 2 ^ k) = lo ∧ nhi (n % 2 ^ k) = hi))) (by rfl) (fun w' => ?_) ?_
      · go_simp
        by_cases a1 : nlo (n % 2 ^ k) = lo
        · by_cases a2 : nhi (n % 2 ^ k) = hi
          · simp [a1, a2]
          · simp [a1, a2]
        · simp [a1]
      have HF : Aside0 (decide (nlo (n % 2 ^ k) = lo ∧ nhi (n % 2 ^ k) = hi) = R) := ⟨by
        rw [← HR.out, ← EN.out, EL.out, EH.out, Int.toNat_natCast, Bool.eq_iff_iff]
        simp only [Bool.and_eq_true, decide_eq_true_eq]
        have e1 : ((n : Int) < 2 ^ k) ↔ n < 2 ^ k := by
          rw [show ((2 : Int) ^ k) = ((2 ^ k : Nat) : Int) by simp]; exact Int.ofNat_lt
        rw [e1]
        constructor
        · intro h
          have := nparts_inj h.1 h.2
          exact ⟨⟨hx1.1, hx1.2⟩, by rw [← this]; exact Nat.mod_lt _ (Nat.two_pow_pos k)⟩
        · intro h
          rw [Nat.mod_eq_of_lt h.2]; exact ⟨rfl, rfl⟩⟩
      rw [HF.out]
      clear HF
      simp only [Act.put, List.setIfInBounds_toArray, List.set_cons_zero, List.set_cons_succ]
      repeat (first
        | (refine' plan_pu _ (by rfl) (fun w' => ?_) ?_; rotate_left 1; (focus (go_simp; try (with_reducible rfl))); (try simp only [wrapi_0, wrapi_1, wrapi_2, wrapi_3, wrapi_4]); simp only [Act.put, List.setIfInBounds_toArray, List.set_cons_zero, List.set_cons_succ])
        | (refine' plan_off (by rfl) ?_; (try simp only [wrapi_0, wrapi_1, wrapi_2, wrapi_3, wrapi_4]); simp only [Act.put, List.setIfInBounds_toArray, List.set_cons_zero, List.set_cons_succ])
        | (refine' plan_offL (by rfl) ?_; (try simp only [wrapi_0, wrapi_1, wrapi_2, wrapi_3, wrapi_4]); simp only [Act.put, List.setIfInBounds_toArray, List.set_cons_zero, List.set_cons_succ])
        | (refine' plan_offE (by rfl) (by first | assumption | exact (by assumption)) ?_; (try simp only [wrapi_0, wrapi_1, wrapi_2, wrapi_3, wrapi_4]); simp only [Act.put, List.setIfInBounds_toArray, List.set_cons_zero, List.set_cons_succ])
        | (refine' plan_ld _ (by rfl) (fun w' hSw => ?_) ?_; rotate_left 1; (focus ((try dsimp only at hSw); have c0 := hSw.cell 0 _ rfl; go_simp; try (with_reducible rfl))); (try simp only [wrapi_0, wrapi_1, wrapi_2, wrapi_3, wrapi_4]); simp only [Act.put, List.setIfInBounds_toArray, List.set_cons_zero, List.set_cons_succ]))
      refine plan_nil ?_
      go_wp2_with fail
      go_returns
      exact ⟨rfl, HW2.out⟩
    · go_enter Tryz.func141, Tryz.ntmps141
      go_wp2_with fail
      generalize (W.alloc (.cells #[.int .i64 x, .int .u64 lo, .int .u64 hi] 110)) = w0 at HC HW ⊢
      have HF : Aside0 (R = false) := ⟨by
        rw [← HR.out]
        rcases Int.lt_or_le 0 x with q | q
        · rw [decide_eq_false (p := x ≤ 128) (fun h => hx1 ⟨q, h⟩)]; simp
        · rw [decide_eq_false (p := 0 < x) (by omega)]; simp⟩
      by_cases hx2 : 0 < x
      · have hx3 : ¬ x ≤ 128 := fun h => hx1 ⟨hx2, h⟩
        refine wp_plan [(0, 0), (1, 1), (0, 2), (0, 3), (0, 4), (1, 5), (0, 6), (0, 7), (0, 8), (0, 9), (1, 10), (1, 11), (1, 14), (2, 12), (2, 13), (0, 15), (0, 16), (0, 17)] (fun w' => Cells w' W.heap.size 110 [.int .i64 x, .int .u64 lo, .int .u64 hi]) (by kernel_rfl) (by kernel_rfl) (fun _ _ d _ _ h => by cases d <;> exact h) HC.out.drew ?_
        simp only [planOps, List.filterMap_cons, List.filterMap_nil, List.getElem?_toArray, List.getElem?_cons_zero, List.getElem?_cons_succ, Option.map_some]
        repeat (first
          | (refine' plan_pu _ (by rfl) (fun w' => ?_) ?_; rotate_left 1; (focus (go_simp; try (with_reducible rfl))); (try simp only [wrapi_0, wrapi_1, wrapi_2, wrapi_3, wrapi_4]); simp only [Act.put, List.setIfInBounds_toArray, List.set_cons_zero, List.set_cons_succ])
          | (refine' plan_off (by rfl) ?_; (try simp only [wrapi_0, wrapi_1, wrapi_2, wrapi_3, wrapi_4]); simp only [Act.put, List.setIfInBounds_toArray, List.set_cons_zero, List.set_cons_succ])
          | (refine' plan_offL (by rfl) ?_; (try simp only [wrapi_0, wrapi_1, wrapi_2, wrapi_3, wrapi_4]); simp only [Act.put, List.setIfInBounds_toArray, List.set_cons_zero, List.set_cons_succ])
          | (refine' plan_offE (by rfl) (by first | assumption | exact HC.out.drew) ?_; (try simp only [wrapi_0, wrapi_1, wrapi_2, wrapi_3, wrapi_4]); simp only [Act.put, List.setIfInBounds_toArray, List.set_cons_zero, List.set_cons_succ])
          | (refine' plan_ld _ (by rfl) (fun w' hSw => ?_) ?_; rotate_left 1; (focus ((try dsimp only at hSw); have c0 := hSw.cell 0 _ rfl; have c1 := hSw.cell 1 _ rfl; have c2 := hSw.cell 2 _ rfl; go_simp; try (with_reducible rfl))); (try simp only [wrapi_0, wrapi_1, wrapi_2, wrapi_3, wrapi_4]); simp only [Act.put, List.setIfInBounds_toArray, List.set_cons_zero, List.set_cons_succ]))
        refine plan_nil ?_
        go_wp2_with fail
        go_returns
        exact ⟨by rw [HF.out]; rfl, HW.out.drew⟩
      ·
        refine wp_plan [(0, 0), (1, 1), (0, 2), (0, 3), (0, 4), (1, 5), (0, 6), (0, 7), (0, 8), (0, 9), (1, 10), (1, 11), (1, 14), (2, 12), (2, 13), (0, 15), (0, 16), (0, 17)] (fun w' => Cells w' W.heap.size 110 [.int .i64 x, .int .u64 lo, .int .u64 hi]) (by kernel_rfl) (by kernel_rfl) (fun _ _ d _ _ h => by cases d <;> exact h) HC.out.drew ?_
        simp only [planOps, List.filterMap_cons, List.filterMap_nil, List.getElem?_toArray, List.getElem?_cons_zero, List.getElem?_cons_succ, Option.map_some]
        repeat (first
          | (refine' plan_pu _ (by rfl) (fun w' => ?_) ?_; rotate_left 1; (focus (go_simp; try (with_reducible rfl))); (try simp only [wrapi_0, wrapi_1, wrapi_2, wrapi_3, wrapi_4]); simp only [Act.put, List.setIfInBounds_toArray, List.set_cons_zero, List.set_cons_succ])
          | (refine' plan_off (by rfl) ?_; (try simp only [wrapi_0, wrapi_1, wrapi_2, wrapi_3, wrapi_4]); simp only [Act.put, List.setIfInBounds_toArray, List.set_cons_zero, List.set_cons_succ])
          | (refine' plan_offL (by rfl) ?_; (try simp only [wrapi_0, wrapi_1, wrapi_2, wrapi_3, wrapi_4]); simp only [Act.put, List.setIfInBounds_toArray, List.set_cons_zero, List.set_cons_succ])
          | (refine' plan_offE (by rfl) (by first | assumption | exact HC.out.drew) ?_; (try simp only [wrapi_0, wrapi_1, wrapi_2, wrapi_3, wrapi_4]); simp only [Act.put, List.setIfInBounds_toArray, List.set_cons_zero, List.set_cons_succ])
          | (refine' plan_ld _ (by rfl) (fun w' hSw => ?_) ?_; rotate_left 1; (focus ((try dsimp only at hSw); have c0 := hSw.cell 0 _ rfl; have c1 := hSw.cell 1 _ rfl; have c2 := hSw.cell 2 _ rfl; go_simp; try (with_reducible rfl))); (try simp only [wrapi_0, wrapi_1, wrapi_2, wrapi_3, wrapi_4]); simp only [Act.put, List.setIfInBounds_toArray, List.set_cons_zero, List.set_cons_succ]))
        refine plan_nil ?_
        go_wp2_with fail
        go_returns
        exact ⟨by rw [HF.out]; rfl, HW.out.drew⟩
theorem New_any (x : Int) (n : Nat) (hn : n < 2 ^ 128) (W : World) : Calls Tryz.prog 203 #[.int .i64 x, .int .u64 (nlo n), .int .u64 (nhi n)] W fun e W' =>
    e = .returned (if x < 1 ∨ 128 < x then .tuple #[.agg #[.int .i64 0, .int .u64 0, .int .u64 0], .int .i64 10] else .tuple #[bitsV x.toNat (n % 2 ^ x.toNat), .int .i64 0]) ∧ Below W.heap.size W W' := by
  have hc := Cells.new W 110 [.int .i64 0, .int .u64 0, .int .u64 0]
  have hb := (Below.refl _ W).alloc (Nat.le_refl _) (.cells #[.int .i64 0, .int .u64 0, .int .u64 0] 110)
  have HC := Aside0.mk hc
  have HW := Aside0.mk hb
  clear hc hb
  obtain ⟨a, ha⟩ : ∃ a, nlo n = a := ⟨_, rfl⟩
  obtain ⟨b, hb⟩ : ∃ a, nhi n = a := ⟨_, rfl⟩
  have HN := Aside0.mk (show Value.agg #[.int .u64 a, .int .u64 b] = numV2 n by unfold numV2; rw [ha, hb])
  rw [ha, hb]
  clear ha hb
  by_cases hx : x < 1 ∨ 128 < x
  · rw [if_pos hx]
    by_cases h1 : x < 1
    · go_enter Tryz.func203, Tryz.ntmps203
      go_wp2_with fail
      exact bodyPost_ret (results_cell_tmp rfl _ _ W.heap.size 110 #[.int .i64 0, .int .u64 0, .int .u64 0] (0, 0) _ (.int .i64 10) rfl rfl HC.out Tryz.underlying110 rfl (by kernel_rfl)) rfl ⟨rfl, HW.out⟩
    · have h2 : 128 < x := by omega
      go_enter Tryz.func203, Tryz.ntmps203
      go_wp2_with fail
      exact bodyPost_ret (results_cell_tmp rfl _ _ W.heap.size 110 #[.int .i64 0, .int .u64 0, .int .u64 0] (0, 0) _ (.int .i64 10) rfl rfl HC.out Tryz.underlying110 rfl (by kernel_rfl)) rfl ⟨rfl, HW.out⟩
  · rw [if_neg hx]
    obtain ⟨k, rfl⟩ := Int.eq_ofNat_of_zero_le (show 0 ≤ x by omega)
    have h1 : ¬ (k : Int) < 1 := fun h => hx (.inl h)
    have h2 : ¬ 128 < (k : Int) := fun h => hx (.inr h)
    go_enter Tryz.func203, Tryz.ntmps203
    go_wp2_with fail
    rw [HN.out]
    refine (cut_bits_any k n (by omega) hn _).mono ?_
    rintro e w1 ⟨rfl, hB⟩
    have HC1 := Aside0.mk (HC.out.below hB)
    have HB1 := Aside0.mk (HW.out.trans (hB.mono (by simp)))
    clear hB
    have q0 := HC1.out.cell 0 _ rfl
    have q1 := HC1.out.cell 1 _ rfl
    have q2 := HC1.out.cell 2 _ rfl
    have f0 := HC1.out.frozen 0
    have f1 := HC1.out.frozen 1
    have f2 := HC1.out.frozen 2
    unfold bitsV
    obtain ⟨r1, hr1⟩ : ∃ a, nlo (n % 2 ^ k) = a := ⟨_, rfl⟩
    obtain ⟨r2, hr2⟩ : ∃ a, nhi (n % 2 ^ k) = a := ⟨_, rfl⟩
    have HR : Aside0 ((.tuple #[bitsV k (n % 2 ^ k), .int .i64 0] : Value) = .tuple #[.agg #[.int .i64 (k : Int), .int .u64 r1, .int .u64 r2], .int .i64 0]) := ⟨by unfold bitsV; rw [hr1, hr2]⟩
    rw [hr1, hr2]
    clear hr1 hr2
    go_wp2_with fail
    have HF := ((HC1.out.set 0 (.int .i64 (k : Int))).set 1 (.int .u64 r1)).set 2 (.int .u64 r2)
    have HB3 := ((HB1.out.setCell (p := ⟨W.heap.size, 0, none⟩) (Nat.le_refl _) (.int .i64 (k : Int))).setCell (p := ⟨W.heap.size, 1, none⟩) (Nat.le_refl _) (.int .u64 r1)).setCell (p := ⟨W.heap.size, 2, none⟩) (Nat.le_refl _) (.int .u64 r2)
    refine bodyPost_ret (results_cell_tmp rfl _ _ W.heap.size 110 #[.int .i64 (k : Int), .int .u64 r1, .int .u64 r2] (0, 0) _ (.int .i64 0) rfl rfl HF Tryz.underlying110 rfl (by kernel_rfl)) rfl ?_
    refine ⟨?_, HB3⟩
    rw [Int.toNat_natCast, HR.out]
end Go.Proofs.YthhnhbpmpdminaaGreatDoor
/-
A term graph in memory: what its blocks hold, and what a step leaves of it. Conditions: none.
-/
namespace Go.Proofs.YthhnhbpmpdminaaGreatDoor
set_option maxRecDepth 4096
set_option maxHeartbeats 8000000
set_option linter.unusedSimpArgs false
set_option linter.unusedVariables false
set_option linter.unnecessarySimpa false
open Go.RowKit Go.Proofs.YthhnhbpmpdminaaGreatDoorW.PrintWords Go.Maps
theorem gLaidOut : laidOutB Tryz.prog = true := by kernel_rfl
theorem nodeLaw : Keyed Tryz.prog 112 := Keyed.of_law (deep_law_laid gLaidOut (m := 3) (by omega) (of_decide_eq_true (by kernel_rfl)) (by kernel_rfl) (by kernel_rfl))
theorem strLaw : Keyed Tryz.prog 9 := string_keyed Tryz.underlying9
theorem litI {n : Int} (h : i64ok n) : (Lit.int .i64 n).wf = true := WalkArith.wf_i64 (by unfold i64ok at h; omega)
theorem litU {n : Int} (h : u64ok n) : (Lit.int .u64 n).wf = true := WalkArith.wf_u64 h
theorem gcNode : Tryz.prog.cellsOf 112 = 11 := by kernel_rfl
theorem gcBits : Tryz.prog.cellsOf 110 = 3 := by kernel_rfl
theorem gcInt : Tryz.prog.cellsOf 3 = 1 := by kernel_rfl
theorem gcU64 : Tryz.prog.cellsOf 108 = 1 := by kernel_rfl
theorem gcStr : Tryz.prog.cellsOf 9 = 1 := by kernel_rfl
theorem gKey : Tryz.prog.keyType 112 = true := by kernel_rfl
theorem key_node (x : Nd) (h : x.Wf) : ∃ kl, keyOf Tryz.prog 112 (.agg x.cells.toArray) = some kl := by
  have hi : ∀ (d : Nat) (n : Int), i64ok n → Tryz.prog.keyLits (d + 1) 3 [.int .i64 n] = some [.int .i64 n] := fun d n hn => by
    unfold Program.keyLits; rw [Tryz.underlying3]; simp [litI hn]
  have hu : ∀ (d : Nat) (n : Int), u64ok n → Tryz.prog.keyLits (d + 1) 108 [.int .u64 n] = some [.int .u64 n] := fun d n hn => by
    unfold Program.keyLits; rw [Tryz.underlying108]; simp [litU hn]
  have hs : ∀ (d : Nat) (s : ByteArray), s.size ≤ maxLen → Tryz.prog.keyLits (d + 1) 9 [.string s] = some [.string s.data.toList] := fun d s hn => by
    unfold Program.keyLits; rw [Tryz.underlying9]; simp [hn]
  have hb : ∀ d : Nat, Tryz.prog.keyLits (d + 2) 110 [.int .i64 x.w, .int .u64 x.lo, .int .u64 x.hi] = some [.int .i64 x.w, .int .u64 x.lo, .int .u64 x.hi] := fun d => by
    unfold Program.keyLits
    rw [Tryz.underlying110]
    simp [gcBits, gcInt, gcU64, hi, hu, h.w, h.lo, h.hi]
  have hn : ∀ d : Nat, ∃ ls, Tryz.prog.keyLits (d + 3) 112 x.cells = some ls := fun d => by
    unfold Program.keyLits
    rw [Tryz.underlying112]
    simp [gcNode, gcBits, gcInt, gcU64, gcStr, Nd.cells, hi, hb, hs, h.op, h.sort, h.a, h.b, h.c, h.p, h.q, h.name]
  obtain ⟨d, hd⟩ : ∃ d, Tryz.prog.types.size + 1 = d + 3 := ⟨Tryz.prog.types.size - 2, by have : 2 ≤ Tryz.prog.types.size := of_decide_eq_true (by kernel_rfl); omega⟩
  obtain ⟨ls, hls⟩ := hn d
  unfold keyOf
  rw [Tryz.underlying112]
  simp only []
  have hf : Value.formed Tryz.prog 112 (.agg x.cells.toArray) = true := by
    simp [Value.formed, Tryz.underlying112, gcNode, Nd.cells]
  rw [gKey, hf, hd]
  simp only [Value.cells, hls]
  exact ⟨_, rfl⟩
end Go.Proofs.YthhnhbpmpdminaaGreatDoor
