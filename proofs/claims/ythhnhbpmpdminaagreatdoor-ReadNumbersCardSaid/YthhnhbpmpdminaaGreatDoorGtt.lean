/-
bv.Two: sum, and product by ten, of words of 128 bits. Conditions: none.
-/
import Derived.Test.YthhnhbpmpdminaaGreatDoorGtw
namespace Go.Proofs.YthhnhbpmpdminaaGreatDoor
set_option maxRecDepth 4096
set_option maxHeartbeats 8000000
set_option linter.unusedSimpArgs false
set_option linter.unusedVariables false
set_option linter.unnecessarySimpa false
open Go.RowKit Go.Proofs.YthhnhbpmpdminaaGreatDoorW.PrintWords Go.Proofs.YthhnhbpmpdminaaGreatDoorW.PrintMore PReadTwice
theorem right128 (m : Nat) (hm : m < 2 ^ 128) : rightV 128 (nlo m) (nhi m) = true := by
  have h : nlo m + nhi m * 18446744073709551616 < 2 ^ (128 : Int).toNat := by
    have e : (2 : Int) ^ (128 : Int).toNat = ((2 ^ 128 : Nat) : Int) := by simp
    rw [e]
    unfold nlo nhi
    rw [show (2 : Nat) ^ 128 = 340282366920938463463374607431768211456 by decide] at *
    omega
  unfold rightV
  rw [if_neg (by decide), decide_eq_true h]
  rfl
theorem word128_any (m : Nat) (hm : m < 2 ^ 128) (W : World) : Calls Tryz.prog 241 #[bitsV 128 m] W fun e W' => e = .returned (.bool true) ∧ Below W.heap.size W W' := by
  have hr := right128 m hm
  have h1 : u64ok (nlo m) := by unfold u64ok nlo; omega
  have h2 : u64ok (nhi m) := by
    unfold u64ok nhi
    rw [show (2 : Nat) ^ 128 = 340282366920938463463374607431768211456 by decide] at hm
    omega
  have HA := Aside0.mk (fun W => Right_any 128 (nlo m) (nhi m) W (by unfold i64ok; omega) h1 h2)
  have HR := Aside0.mk hr
  have hc := Cells.new W 110 [.int .i64 128, .int .u64 (nlo m), .int .u64 (nhi m)]
  have hb := (Below.refl _ W).alloc (Nat.le_refl _) (.cells #[.int .i64 128, .int .u64 (nlo m), .int .u64 (nhi m)] 110)
  have HC := Aside0.mk hc
  have HB := Aside0.mk hb
  clear hr h1 h2 hc hb
  rw [bs8 m]
  go_enter Tryz.func241, Tryz.ntmps241
  go_wp2_with fail
  refine (HA.out _).mono ?_
  rintro e w1 ⟨rfl, hB⟩
  rw [HR.out]
  have HB1 := Aside0.mk (HB.out.trans (hB.mono HB.out.size))
  clear hB
  go_wp2_with fail
  go_returns
  exact ⟨rfl, HB1.out⟩
theorem Two_any (op : Int) (R m n : Nat) (hm : m < 2 ^ 128) (hn : n < 2 ^ 128) (ho : (op = 18 ∧ R = (m + n) % 2 ^ 128) ∨ (op = 20 ∧ n = 10 ∧ R = m * 10 % 2 ^ 128)) (W : World) :
    Calls Tryz.prog 204 #[.int .i64 op, bitsV 128 m, bitsV 128 n] W fun e W' => e = .returned (.tuple #[bitsV 128 R, .int .i64 0]) ∧ Below W.heap.size W W' := by
  have hR : R < 2 ^ 128 := by rcases ho with ⟨_, rfl⟩ | ⟨_, _, rfl⟩ <;> exact Nat.mod_lt _ (by decide)
  have HO := Aside0.mk (fun W => reckoned_any op R m n hm hn ho W)
  have HM := Aside0.mk (fun W => word128_any m hm W)
  have HN := Aside0.mk (fun W => word128_any n hn W)
  have HCU := Aside0.mk (fun W => cut_bits_any 128 R (by omega) hR W)
  have HRR := Aside0.mk hR
  have o1 : (18 : Int) ≤ op := by rcases ho with ⟨rfl, _⟩ | ⟨rfl, _, _⟩ <;> decide
  have o2 : op ≤ 25 := by rcases ho with ⟨rfl, _⟩ | ⟨rfl, _, _⟩ <;> decide
  have o3 : (12 : Int) ≤ op := by omega
  have o4 : ¬ op ≤ 17 := by omega
  have hc4 := ((Cells.new W 110 [.int .i64 128, .int .u64 (nlo m), .int .u64 (nhi m)]).alloc (.cells #[.int .i64 128, .int .u64 (nlo n), .int .u64 (nhi n)] 110)).alloc (.cells #[.int .i64 0, .int .u64 0, .int .u64 0] 110)
  have hc5 : Cells ((W.alloc (.cells #[.int .i64 128, .int .u64 (nlo m), .int .u64 (nhi m)] 110)).alloc (.cells #[.int .i64 128, .int .u64 (nlo n), .int .u64 (nhi n)] 110)) (W.heap.size + 1) 110 [.int .i64 128, .int .u64 (nlo n), .int .u64 (nhi n)] := by
    have := Cells.new (W.alloc (.cells #[.int .i64 128, .int .u64 (nlo m), .int .u64 (nhi m)] 110)) 110 [.int .i64 128, .int .u64 (nlo n), .int .u64 (nhi n)]
    simpa using this
  have hc6 : Cells (((W.alloc (.cells #[.int .i64 128, .int .u64 (nlo m), .int .u64 (nhi m)] 110)).alloc (.cells #[.int .i64 128, .int .u64 (nlo n), .int .u64 (nhi n)] 110)).alloc (.cells #[.int .i64 0, .int .u64 0, .int .u64 0] 110)) (W.heap.size + 1 + 1) 110 [.int .i64 0, .int .u64 0, .int .u64 0] := by
    have := Cells.new ((W.alloc (.cells #[.int .i64 128, .int .u64 (nlo m), .int .u64 (nhi m)] 110)).alloc (.cells #[.int .i64 128, .int .u64 (nlo n), .int .u64 (nhi n)] 110)) 110 [.int .i64 0, .int .u64 0, .int .u64 0]
    simpa using this
  have hc5 := hc5.alloc (.cells #[.int .i64 0, .int .u64 0, .int .u64 0] 110)
  have hb := (((Below.refl _ W).alloc (Nat.le_refl _) (.cells #[.int .i64 128, .int .u64 (nlo m), .int .u64 (nhi m)] 110)).alloc (by simp) (.cells #[.int .i64 128, .int .u64 (nlo n), .int .u64 (nhi n)] 110)).alloc (by simp; omega) (.cells #[.int .i64 0, .int .u64 0, .int .u64 0] 110)
  clear ho hm hn hR
  rw [bs8 m, bs8 n]
  go_enter Tryz.func204, Tryz.ntmps204
  go_upto_region 1 with (fail)
  obtain ⟨w0, hw0⟩ : ∃ w0, ((W.alloc (.cells #[.int .i64 128, .int .u64 (nlo m), .int .u64 (nhi m)] 110)).alloc (.cells #[.int .i64 128, .int .u64 (nlo n), .int .u64 (nhi n)] 110)).alloc (.cells #[.int .i64 0, .int .u64 0, .int .u64 0] 110) = w0 := ⟨_, rfl⟩
  rw [hw0] at hc4 hc5 hc6 hb ⊢
  have q0 := hc4.cell 0 _ rfl
  have q1 := hc4.cell 1 _ rfl
  have q2 := hc4.cell 2 _ rfl
  have HC4 := Aside0.mk hc4
  have HC5 := Aside0.mk hc5
  have HC6 := Aside0.mk hc6
  have HB := Aside0.mk hb
  clear hc4 hc5 hc6 hb hw0
  go_wp2_with fail
  refine (HM.out _).mono ?_
  rintro e w1 ⟨rfl, hB⟩
  have HB1 := Aside0.mk (HB.out.trans (hB.mono HB.out.size))
  have HC41 := Aside0.mk (HC4.out.below hB)
  have HC51 := Aside0.mk (HC5.out.below hB)
  have HC61 := Aside0.mk (HC6.out.below hB)
  clear hB q0 q1 q2
  have q0 := HC51.out.cell 0 _ rfl
  have q1 := HC51.out.cell 1 _ rfl
  have q2 := HC51.out.cell 2 _ rfl
  go_wp2_with fail
  refine (HN.out _).mono ?_
  rintro e w2 ⟨rfl, hB⟩
  have HB2 := Aside0.mk (HB1.out.trans (hB.mono HB1.out.size))
  have HC42 := Aside0.mk (HC41.out.below hB)
  have HC52 := Aside0.mk (HC51.out.below hB)
  have HC62 := Aside0.mk (HC61.out.below hB)
  clear hB q0 q1 q2
  have q0 := HC42.out.cell 0 _ rfl
  have r0 := HC52.out.cell 0 _ rfl
  go_upto_region 6 with (fail)
  clear q0 r0
  refine wp_plan [(0, 0), (0, 2), (1, 1), (1, 3), (1, 4), (2, 5), (3, 6), (3, 7), (0, 8)] (fun w' => Cells w' W.heap.size 110 [.int .i64 128, .int .u64 (nlo m), .int .u64 (nhi m)] ∧ Cells w' (W.heap.size + 1) 110 [.int .i64 128, .int .u64 (nlo n), .int .u64 (nhi n)]) (by kernel_rfl) (by kernel_rfl) (fun _ _ d _ _ h => by cases d <;> exact h) ⟨HC42.out.drew, HC52.out.drew⟩ ?_
  simp only [planOps, List.filterMap_cons, List.filterMap_nil, List.getElem?_toArray, List.getElem?_cons_zero, List.getElem?_cons_succ, Option.map_some]
  repeat (first
    | (refine' plan_pu _ (by rfl) (fun w' => ?_) ?_; rotate_left 1; (focus (go_simp; try (with_reducible rfl))); (try simp only [wrapi_0, wrapi_1, wrapi_2, wrapi_3, wrapi_4]); simp only [Act.put, List.setIfInBounds_toArray, List.set_cons_zero, List.set_cons_succ])
    | (refine' plan_off (by rfl) ?_; (try simp only [wrapi_0, wrapi_1, wrapi_2, wrapi_3, wrapi_4]); simp only [Act.put, List.setIfInBounds_toArray, List.set_cons_zero, List.set_cons_succ])
    | (refine' plan_offL (by rfl) ?_; (try simp only [wrapi_0, wrapi_1, wrapi_2, wrapi_3, wrapi_4]); simp only [Act.put, List.setIfInBounds_toArray, List.set_cons_zero, List.set_cons_succ])
    | (refine' plan_offE (by rfl) (by first | assumption | exact (by assumption)) ?_; (try simp only [wrapi_0, wrapi_1, wrapi_2, wrapi_3, wrapi_4]); simp only [Act.put, List.setIfInBounds_toArray, List.set_cons_zero, List.set_cons_succ])
    | (refine' plan_ld _ (by rfl) (fun w' hSw => ?_) ?_; rotate_left 1; (focus ((try dsimp only at hSw); have c0 := hSw.1.cell 0 _ rfl; have c1 := hSw.1.cell 1 _ rfl; have c2 := hSw.1.cell 2 _ rfl; have d0 := hSw.2.cell 0 _ rfl; have d1 := hSw.2.cell 1 _ rfl; have d2 := hSw.2.cell 2 _ rfl; go_simp; try (with_reducible rfl))); (try simp only [wrapi_0, wrapi_1, wrapi_2, wrapi_3, wrapi_4]); simp only [Act.put, List.setIfInBounds_toArray, List.set_cons_zero, List.set_cons_succ]))
  refine plan_ef (fun K hK => ?_)
  go_simp
  refine (HO.out _).mono ?_
  rintro e w3 ⟨rfl, hB⟩
  have HB3 := Aside0.mk (HB2.out.drew.trans (hB.mono HB2.out.size))
  have HC63 := Aside0.mk (HC62.out.drew.below hB)
  refine hK.out _ _ (⟨HC42.out.drew.below hB, HC52.out.drew.below hB⟩) (fun _ => ?_)
  clear hK K
  try (try simp only [wrapi_0, wrapi_1, wrapi_2, wrapi_3, wrapi_4]); simp only [Act.put, List.setIfInBounds_toArray, List.set_cons_zero, List.set_cons_succ]
  clear hB
  refine plan_fi (fun K hK => ?_)
  go_simp
  refine (HCU.out _).mono ?_
  rintro e w4 ⟨rfl, hB⟩
  refine hK.out _ _ ?_
  clear hK K
  have HB4 := Aside0.mk (HB3.out.trans (hB.mono HB3.out.size))
  have HC64 := Aside0.mk (HC63.out.below hB)
  rw [Nat.mod_eq_of_lt HRR.out]
  clear hB
  have z0 := HC64.out.cell 0 _ rfl
  have z1 := HC64.out.cell 1 _ rfl
  have z2 := HC64.out.cell 2 _ rfl
  have f0 := HC64.out.frozen 0
  have f1 := HC64.out.frozen 1
  have f2 := HC64.out.frozen 2
  refine plan_fi (fun K hK => ?_)
  unfold bitsV
  go_simp
  refine hK.out _ _ ?_
  clear hK K
  repeat (first
    | (refine' plan_pu _ (by rfl) (fun w' => ?_) ?_; rotate_left 1; (focus (go_simp; try (with_reducible rfl))); (try simp only [wrapi_0, wrapi_1, wrapi_2, wrapi_3, wrapi_4]); simp only [Act.put, List.setIfInBounds_toArray, List.set_cons_zero, List.set_cons_succ])
    | (refine' plan_off (by rfl) ?_; (try simp only [wrapi_0, wrapi_1, wrapi_2, wrapi_3, wrapi_4]); simp only [Act.put, List.setIfInBounds_toArray, List.set_cons_zero, List.set_cons_succ])
    | (refine' plan_offL (by rfl) ?_; (try simp only [wrapi_0, wrapi_1, wrapi_2, wrapi_3, wrapi_4]); simp only [Act.put, List.setIfInBounds_toArray, List.set_cons_zero, List.set_cons_succ])
    | (refine' plan_offE (by rfl) (by first | assumption | exact (by assumption)) ?_; (try simp only [wrapi_0, wrapi_1, wrapi_2, wrapi_3, wrapi_4]); simp only [Act.put, List.setIfInBounds_toArray, List.set_cons_zero, List.set_cons_succ])
    | (refine' plan_ld _ (by rfl) (fun w' hSw => ?_) ?_; rotate_left 1; (focus ((try dsimp only at hSw); skip; go_simp; try (with_reducible rfl))); (try simp only [wrapi_0, wrapi_1, wrapi_2, wrapi_3, wrapi_4]); simp only [Act.put, List.setIfInBounds_toArray, List.set_cons_zero, List.set_cons_succ]))
  refine plan_nil ?_
  go_wp2_with fail
  have HF := ((HC64.out.set 0 (.int .i64 (128 : Nat))).set 1 (.int .u64 (nlo R))).set 2 (.int .u64 (nhi R))
  have HB5 := ((HB4.out.setCell (p := ⟨W.heap.size + 1 + 1, 0, none⟩) (by simp; omega) (.int .i64 (128 : Nat))).setCell (p := ⟨W.heap.size + 1 + 1, 1, none⟩) (by simp; omega) (.int .u64 (nlo R))).setCell (p := ⟨W.heap.size + 1 + 1, 2, none⟩) (by simp; omega) (.int .u64 (nhi R))
  exact bodyPost_ret (results_cell_tmp rfl _ _ (W.heap.size + 1 + 1) 110 #[.int .i64 (128 : Nat), .int .u64 (nlo R), .int .u64 (nhi R)] (0, 0) _ (.int .i64 0) rfl rfl HF Tryz.underlying110 rfl (by kernel_rfl)) rfl ⟨rfl, HB5⟩
end Go.Proofs.YthhnhbpmpdminaaGreatDoor
