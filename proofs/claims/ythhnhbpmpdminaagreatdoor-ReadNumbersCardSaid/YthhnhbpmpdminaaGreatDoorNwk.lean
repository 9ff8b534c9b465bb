/-
plaithelp.Place, and the law's binary and digits. Conditions: n is within reach.
-/
import Derived.Test.YthhnhbpmpdminaaGreatDoorXZ
import Derived.Test.YthhnhbpmpdminaaGreatDoorNpr
import Derived.Laws.DeepStrings4
namespace Go.Proofs.YthhnhbpmpdminaaGreatDoor
set_option maxRecDepth 4096
set_option maxHeartbeats 8000000
set_option linter.unusedSimpArgs false
set_option linter.unusedVariables false
set_option linter.unnecessarySimpa false
open Go.RowKit Go.Proofs.YthhnhbpmpdminaaGreatDoorW.PrintWords Go.Maps PReadTwice Go.Lib
theorem Place_any (k n : Int) (hn : 0 < n) (hn2 : n ≤ 1048576) (h1 : -9223372036854775808 ≤ k) (h2 : k ≤ 9223372036854775807) (w : World) :
    Calls Tryz.prog 39 #[.int .i64 k, .int .i64 n] w fun e w' => e = .returned (.int .i64 (k % n)) ∧ w' = w := by
  have n0 : (n == 0) = false := by rw [beq_eq_false_iff_ne]; omega
  obtain ⟨r, hr⟩ : ∃ r, k.tmod n = r := ⟨_, rfl⟩
  obtain ⟨q, hq⟩ : ∃ q, k.tdiv n = q := ⟨_, rfl⟩
  have e1 : r + n * q = k := by rw [← hr, ← hq]; exact Int.tmod_add_mul_tdiv k n
  have e2 : k % n = r % n := by rw [← e1, Int.add_mul_emod_self_left]
  have r1 : r < n := by rw [← hr]; exact Int.tmod_lt_of_pos k hn
  have r2 : -n < r := by
    have h3 := Int.tmod_lt_of_pos (-k) hn
    rw [Int.neg_tmod, hr] at h3
    omega
  have hk : k % n = if r < 0 then r + n else r := by
    rw [e2]
    split
    · rw [← Int.add_emod_right, Int.emod_eq_of_lt (by omega) (by omega)]
    · exact Int.emod_eq_of_lt (by omega) (by omega)
  have HK := Aside0.mk hk
  clear hk e2 e1 hq
  go_enter Tryz.func39, Tryz.ntmps39
  go_wp2_with fail
  · rename_i h
    go_returns
    exact ⟨by rw [HK.out, if_pos h]; rfl, rfl⟩
  · rename_i h
    go_returns
    exact ⟨by rw [HK.out, if_neg (by omega)]; rfl, rfl⟩
theorem dig_one (d : Nat) (h : d < 10) : (⟨#[48, 49, 50, 51, 52, 53, 54, 55, 56, 57]⟩ : ByteArray).extract d (d + 1) = ⟨#[UInt8.ofNat (48 + d)]⟩ := by
  match d, h with
  | 0, _ => rfl
  | 1, _ => rfl
  | 2, _ => rfl
  | 3, _ => rfl
  | 4, _ => rfl
  | 5, _ => rfl
  | 6, _ => rfl
  | 7, _ => rfl
  | 8, _ => rfl
  | 9, _ => rfl
  | d + 10, h => omega
theorem cut_str (s : ByteArray) (i j : Int) (t : ByteArray) (a b : Nat) (hi : i = (a : Int)) (hj : j = (b : Int)) (hab : a ≤ b) (hb : b ≤ s.size) (ht : s.extract a b = t) (w : World) :
    (Instr.slice 9 (.string s) (some (.int .i64 i)) (some (.int .i64 j)) none).run Tryz.prog w = .ok (.string t) w := by
  subst hi hj
  rw [run_slice_string_if w 9 s .i64 .i64 (a : Int) (b : Int) Tryz.underlying9, if_pos ⟨by omega, by omega⟩, if_pos ⟨by omega, by omega⟩]
  show Result.ok (Value.string (s.extract a b)) w = _
  rw [ht]
theorem ndigits_any : ∀ (k u : Nat), u < 10 ^ (k + 1) → u < 1000000000 → ∀ w : World, Calls Tryz.prog 43 #[.int .i64 (u : Int)] w fun e w' => e = .returned (.string ⟨(decDigits u).toArray⟩) ∧ Below w.heap.size w w' := by
  intro k
  induction k with
  | zero =>
    intro u hu hm w
    have hu : u < 10 := by simpa using hu
    have hd := dig_one u hu
    have HD : Aside0 (decDigits u = [UInt8.ofNat (48 + u)]) := ⟨decDigits_lt hu⟩
    have h1 : (u : Int) < 10 := by omega
    obtain ⟨D, hD⟩ : ∃ t, (⟨#[UInt8.ofNat (48 + u)]⟩ : ByteArray) = t := ⟨_, rfl⟩
    rw [hD] at hd
    have hsl := fun w => cut_str ⟨#[48, 49, 50, 51, 52, 53, 54, 55, 56, 57]⟩ (u : Int) ((u : Int) + 1) _ u (u + 1) rfl (by omega) (by omega) (by show u + 1 ≤ 10; omega) hd w
    have HDD := Aside0.mk hD
    clear hd hD
    go_enter Tryz.func43, Tryz.ntmps43
    go_wp2_with fail
    go_returns
    exact ⟨by rw [HD.out, ← HDD.out]; rfl, Below.refl _ _⟩
  | succ k ih =>
    intro u hu hm w
    by_cases h10 : u < 10
    · exact ih u (Nat.lt_of_lt_of_le h10 (by rw [Nat.pow_succ]; have := Nat.pow_pos (n := k) (show 0 < 10 by omega); omega)) hm w
    have hq : u / 10 < 10 ^ (k + 1) := by rw [Nat.pow_succ] at hu; omega
    have IH := Aside0.mk (ih (u / 10) hq (by omega))
    clear ih
    have hd := dig_one (u % 10) (Nat.mod_lt _ (by omega))
    have hln := (nde_from 8 (u / 10) (by omega)).2.2.1
    obtain ⟨D, hD⟩ : ∃ t, (⟨#[UInt8.ofNat (48 + u % 10)]⟩ : ByteArray) = t := ⟨_, rfl⟩
    obtain ⟨F, hF⟩ : ∃ t, (⟨(decDigits (u / 10)).toArray⟩ : ByteArray) = t := ⟨_, rfl⟩
    obtain ⟨q, hqq⟩ : ∃ q, u / 10 = q := ⟨_, rfl⟩
    obtain ⟨r, hr⟩ : ∃ r, u % 10 = r := ⟨_, rfl⟩
    have hFs : F.size ≤ 9 := by rw [← hF]; exact hln
    have hDs : D.size = 1 := by rw [← hD]; rfl
    have HD : Aside0 ((⟨(decDigits u).toArray⟩ : ByteArray) = F ++ D) := ⟨by
      rw [decDigits_ge h10, ← hF, ← hD]
      apply ba_ext
      simp⟩
    rw [hF, hqq] at IH
    rw [hD, hr] at hd
    have hsl := fun w => cut_str ⟨#[48, 49, 50, 51, 52, 53, 54, 55, 56, 57]⟩ (r : Int) ((r : Int) + 1) _ r (r + 1) rfl (by omega) (by omega) (by show r + 1 ≤ 10; omega) hd w
    have e1 : (u : Int).tdiv 10 = (q : Int) := by rw [← hqq]; rfl
    have e2 : (u : Int).tmod 10 = (r : Int) := by rw [← hr]; rfl
    have h1 : ¬ (u : Int) < 10 := by omega
    have hu2 : (u : Int) ≤ 1000000000 := by omega
    have hq2 : (q : Int) ≤ 1000000000 := by omega
    have hr2 : (r : Int) ≤ 9 := by omega
    have h3 : (F.size : Int) ≤ 9 := by omega
    have h4 : (D.size : Int) = 1 := by omega
    have hcat := fun w' => run_string_add_sum (P := Tryz.prog) (w := w') F D (by omega)
    have hw3 : IntKind.i64.wrap ((r : Int) + 1) = (r : Int) + 1 := by rw [IntKind.wrap_i64]; omega
    have hw4 : IntKind.i64.wrap (q : Int) = (q : Int) := by rw [IntKind.wrap_i64]; omega
    clear hu hm h10 hq hd hln hD hF hqq hr hFs hDs
    go_enter Tryz.func43, Tryz.ntmps43
    go_wp2_with fail
    refine wp_plan [(0, 0), (0, 1), (0, 3), (0, 4), (0, 5), (0, 6), (0, 7), (0, 8), (3, 2), (0, 9), (0, 10)] (fun w' => w' = _) (by kernel_rfl) (by kernel_rfl) (fun _ _ d _ _ h => by cases d <;> exact h) rfl ?_
    simp only [planOps, List.filterMap_cons, List.filterMap_nil, List.getElem?_toArray, List.getElem?_cons_zero, List.getElem?_cons_succ, Option.map_some]
    repeat (first
      | (refine' plan_pu _ (by rfl) (fun w' => ?_) ?_; rotate_left 1; (focus (go_simp; try (with_reducible rfl))); (try simp only [wrapi_0, wrapi_1, wrapi_2, wrapi_3, wrapi_4, hw3, hw4]); simp only [Act.put, List.setIfInBounds_toArray, List.set_cons_zero, List.set_cons_succ])
      | (refine' plan_off (by rfl) ?_; (try simp only [wrapi_0, wrapi_1, wrapi_2, wrapi_3, wrapi_4, hw3, hw4]); simp only [Act.put, List.setIfInBounds_toArray, List.set_cons_zero, List.set_cons_succ])
      | (refine' plan_offL (by rfl) ?_; (try simp only [wrapi_0, wrapi_1, wrapi_2, wrapi_3, wrapi_4, hw3, hw4]); simp only [Act.put, List.setIfInBounds_toArray, List.set_cons_zero, List.set_cons_succ])
      | (refine' plan_ld _ (by rfl) (fun w' hSw => ?_) ?_; rotate_left 1; (focus (subst hSw; go_simp; try (with_reducible rfl))); (try simp only [wrapi_0, wrapi_1, wrapi_2, wrapi_3, wrapi_4, hw3, hw4]); simp only [Act.put, List.setIfInBounds_toArray, List.set_cons_zero, List.set_cons_succ]))
    refine plan_fi (fun K hK => ?_)
    go_simp
    refine (IH.out w.drew).mono ?_
    rintro e w2 ⟨rfl, hB⟩
    refine hK.out _ _ ?_
    clear hK K
    have HB := Aside0.mk (((Below.refl _ w).drew).trans hB)
    clear hB
    repeat (first
      | (refine' plan_pu _ (by rfl) (fun w' => ?_) ?_; rotate_left 1; (focus (go_simp; try (with_reducible rfl))); (try simp only [wrapi_0, wrapi_1, wrapi_2, wrapi_3, wrapi_4]); simp only [Act.put, List.setIfInBounds_toArray, List.set_cons_zero, List.set_cons_succ])
      | (refine' plan_off (by rfl) ?_; (try simp only [wrapi_0, wrapi_1, wrapi_2, wrapi_3, wrapi_4]); simp only [Act.put, List.setIfInBounds_toArray, List.set_cons_zero, List.set_cons_succ])
      | (refine' plan_offL (by rfl) ?_; (try simp only [wrapi_0, wrapi_1, wrapi_2, wrapi_3, wrapi_4]); simp only [Act.put, List.setIfInBounds_toArray, List.set_cons_zero, List.set_cons_succ])
      | (refine' plan_offE (by rfl) (by first | assumption | exact (by assumption)) ?_; (try simp only [wrapi_0, wrapi_1, wrapi_2, wrapi_3, wrapi_4]); simp only [Act.put, List.setIfInBounds_toArray, List.set_cons_zero, List.set_cons_succ])
      | (refine' plan_ld _ (by rfl) (fun w' hSw => ?_) ?_; rotate_left 1; (focus ((try dsimp only at hSw); skip; go_simp; try (with_reducible rfl))); (try simp only [wrapi_0, wrapi_1, wrapi_2, wrapi_3, wrapi_4]); simp only [Act.put, List.setIfInBounds_toArray, List.set_cons_zero, List.set_cons_succ]))
    refine plan_nil ?_
    go_wp2_with fail
    go_returns
    exact ⟨by rw [HD.out]; rfl, HB.out⟩
theorem bit_one (d : Nat) (h : d < 2) : (⟨#[48, 49]⟩ : ByteArray).extract d (d + 1) = ⟨#[UInt8.ofNat (48 + d)]⟩ := by
  match d, h with
  | 0, _ => rfl
  | 1, _ => rfl
  | d + 2, h => omega
theorem and_nat (a b : Nat) (ha : a < 2 ^ 40) (hb : b < 2 ^ 40) : bits .and .i64 (a : Int) (b : Int) = ((a &&& b : Nat) : Int) :=
  (bits_nat .i64 40 (by decide) (fun n h0 h1 => by rw [IntKind.wrap_i64]; have : (2 : Int) ^ 40 = 1099511627776 := by decide
                                                   omega) a b ha hb).1
theorem and_1 (a : Nat) (ha : a < 2 ^ 40) : bits .and .i64 (a : Int) 1 = ((a % 2 : Nat) : Int) := by
  have h := and_nat a 1 ha (by decide)
  rw [show a &&& 1 = a % 2 from Nat.and_two_pow_sub_one_eq_mod a 1] at h
  exact h
theorem and_15 (a : Nat) (ha : a < 2 ^ 40) : bits .and .i64 (a : Int) 15 = ((a % 16 : Nat) : Int) := by
  have h := and_nat a 15 ha (by decide)
  rw [show a &&& 15 = a % 16 from Nat.and_two_pow_sub_one_eq_mod a 4] at h
  exact h
theorem binary_any (n w : Nat) (hw : w ≤ 20) (hn : n < 2 ^ w) (W : World) : Calls Tryz.prog 42 #[.int .i64 (n : Int), .int .i64 (w : Int)] W fun e W' => e = .returned (.string ⟨(35 :: 98 :: bw n w).toArray⟩) ∧ Below W.heap.size W W' := by
  go_enter Tryz.func42, Tryz.ntmps42
  go_wp2_with fail
  go_loopw [5, 6] (fun v5 v6 wr => ∃ (i : Nat) (o : ByteArray), i ≤ w ∧ v5 = .string o ∧ v6 = .int .i64 ((i : Int) - 1) ∧ o.size ≤ 20 ∧ Aside0 (o.data.toList = bw (n / 2 ^ i) (w - i)) ∧ Aside0 (Below W.heap.size W wr)) (fun _ v6 _ => (RowKit.intOf v6 + 1).toNat)
  case atStart => exact ⟨w, ⟨#[]⟩, by omega, rfl, rfl, by decide, ⟨by rw [Nat.sub_self]; rfl⟩, ⟨Below.refl _ _⟩⟩
  case round =>
    obtain ⟨i, o, hi, rfl, rfl, ho, HO, HB⟩ := hrel
    cases i with
    | zero =>
      have ho2 : (o.size : Int) ≤ 20 := by omega
      have HR : Aside0 ((⟨(35 :: 98 :: bw n w).toArray⟩ : ByteArray) = ⟨#[35, 98]⟩ ++ o) := ⟨by
        apply ba_ext
        have := HO.out
        rw [Nat.pow_zero, Nat.div_one, Nat.sub_zero] at this
        simp [← this]⟩
      go_wp2_with fail
      go_returns
      exact ⟨by rw [HR.out]; rfl, HB.out⟩
    | succ i =>
      have e1 : ((i + 1 : Nat) : Int) - 1 = (i : Int) := by omega
      rw [e1]
      have hi2 : (i : Int) ≤ 19 := by omega
      obtain ⟨m, hm⟩ : ∃ m, n / 2 ^ i = m := ⟨_, rfl⟩
      have hd : (n : Int) / 2 ^ i = (m : Int) := by rw [← hm]; simp
      have hn20 : n < 2 ^ 20 := Nat.lt_of_lt_of_le hn (Nat.pow_le_pow_right (by omega) hw)
      have hm40 : m < 2 ^ 40 := by
        have : n / 2 ^ i ≤ n := Nat.div_le_self _ _
        have : (2 : Nat) ^ 20 < 2 ^ 40 := by decide
        omega
      obtain ⟨b, hbm⟩ : ∃ b, m % 2 = b := ⟨_, rfl⟩
      have hb2 : b < 2 := by omega
      have hbi : bits .and .i64 (m : Int) 1 = (b : Int) := by rw [and_1 m hm40, hbm]
      have hb3 : (b : Int) ≤ 1 := by omega
      have hc := bit_one b hb2
      obtain ⟨D, hD⟩ : ∃ t, (⟨#[UInt8.ofNat (48 + b)]⟩ : ByteArray) = t := ⟨_, rfl⟩
      rw [hD] at hc
      have hsl := fun w => cut_str ⟨#[48, 49]⟩ (b : Int) ((b : Int) + 1) _ b (b + 1) rfl (by omega) (by omega) (by show b + 1 ≤ 2; omega) hc w
      have hDs : D.size = 1 := by rw [← hD]; rfl
      have hos : o.size ≤ 19 := by
        have h1 := congrArg List.length HO.out
        rw [bw_len] at h1
        have hl : o.data.toList.length = o.size := by rw [Array.length_toList]; rfl
        omega
      have ho2 : (o.size : Int) ≤ 19 := by omega
      have h4 : (D.size : Int) = 1 := by omega
      have HR : Aside0 ((o ++ D).data.toList = bw (n / 2 ^ i) (w - i)) := ⟨by
        have h1 := HO.out
        have h2 : n / 2 ^ (i + 1) = n / 2 ^ i / 2 := by rw [Nat.pow_succ, Nat.div_div_eq_div_mul]
        have h3 : w - i = (w - (i + 1)) + 1 := by omega
        rw [h3, bw, ← h2, ← h1, hm, hbm, ← hD]
        simp⟩
      have HS : Aside0 ((o ++ D).size ≤ 20) := ⟨by rw [ByteArray.size_append]; omega⟩
      have hcat := fun w' => run_string_add_sum (P := Tryz.prog) (w := w') o D (by omega)
      have hw3 : IntKind.i64.wrap ((b : Int) + 1) = (b : Int) + 1 := by rw [IntKind.wrap_i64]; omega
      clear hm hn20 hm40 hbm hb2 hc hD hDs hos HO ho
      go_upto_region 5 with (fail)
      refine wp_plan [(0, 0), (0, 1), (0, 2), (0, 3), (0, 4), (0, 5), (0, 6), (0, 7), (0, 8), (0, 9), (0, 10), (0, 11), (0, 12)] (fun w' => w' = _) (by kernel_rfl) (by kernel_rfl) (fun _ _ d _ _ h => by cases d <;> exact h) rfl ?_
      simp only [planOps, List.filterMap_cons, List.filterMap_nil, List.getElem?_toArray, List.getElem?_cons_zero, List.getElem?_cons_succ, Option.map_some]
      repeat (first
        | (refine' plan_pu _ (by rfl) (fun w' => ?_) ?_; rotate_left 1; (focus (go_simp; try (with_reducible rfl))); (try simp only [wrapi_0, wrapi_1, wrapi_2, wrapi_3, wrapi_4, hw3]); simp only [Act.put, List.setIfInBounds_toArray, List.set_cons_zero, List.set_cons_succ])
        | (refine' plan_off (by rfl) ?_; (try simp only [wrapi_0, wrapi_1, wrapi_2, wrapi_3, wrapi_4, hw3]); simp only [Act.put, List.setIfInBounds_toArray, List.set_cons_zero, List.set_cons_succ])
        | (refine' plan_offL (by rfl) ?_; (try simp only [wrapi_0, wrapi_1, wrapi_2, wrapi_3, wrapi_4, hw3]); simp only [Act.put, List.setIfInBounds_toArray, List.set_cons_zero, List.set_cons_succ])
        | (refine' plan_ld _ (by rfl) (fun w' hSw => ?_) ?_; rotate_left 1; (focus (subst hSw; go_simp; try (with_reducible rfl))); (try simp only [wrapi_0, wrapi_1, wrapi_2, wrapi_3, wrapi_4, hw3]); simp only [Act.put, List.setIfInBounds_toArray, List.set_cons_zero, List.set_cons_succ]))
      refine plan_nil ?_
      go_wp2_with fail
      refine ⟨⟨i, o ++ D, by omega, rfl, rfl, HS.out, HR, ⟨HB.out.drew⟩⟩, by simp only [RowKit.intOf]; omega⟩
end Go.Proofs.YthhnhbpmpdminaaGreatDoor
