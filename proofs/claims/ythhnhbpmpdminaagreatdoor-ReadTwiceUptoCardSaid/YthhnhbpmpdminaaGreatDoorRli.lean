/-
The law's light: where it tells true, the steps are few, and their parameters. Conditions: the steps lie in memory.
-/
import Derived.Test.YthhnhbpmpdminaaGreatDoorXZ
import Derived.Test.YthhnhbpmpdminaaGreatDoorRbt
namespace Go.Proofs.YthhnhbpmpdminaaGreatDoor
set_option maxRecDepth 4096
set_option maxHeartbeats 8000000
set_option linter.unusedSimpArgs false
set_option linter.unusedVariables false
set_option linter.unnecessarySimpa false
open Go.RowKit Go.Proofs.YthhnhbpmpdminaaGreatDoorW.PrintWords Go.Proofs.YthhnhbpmpdminaaGreatDoorW.PrintLast
theorem add_field7 (ad : Addr) (a k : Nat) (hk : 0 < k) : (⟨(ad.add a).block, (ad.add a).off + k, none⟩ : Addr) = ad.add (a + k) := by
  unfold Addr.add
  rw [if_neg (by omega : ¬ a + k = 0)]
  split <;> simp <;> omega
theorem step_cells {B : Nat} {w : World} {l : List Stp} {A : Option Addr} (h : StpsOk B w l A) (i : Nat) (s : Stp) (hi : l[i]? = some s) : ∃ ad pa pc xa xc, A = some ad ∧ ad.block < B ∧
    w.cell? (ad.add (i * 7)) = some (.int .i64 s.what) ∧ w.cell? ⟨(ad.add (i * 7)).block, (ad.add (i * 7)).off + 1, none⟩ = some (.int .i64 s.sort) ∧ w.cell? ⟨(ad.add (i * 7)).block, (ad.add (i * 7)).off + 2, none⟩ = some (.string s.name) ∧
    w.cell? ⟨(ad.add (i * 7)).block, (ad.add (i * 7)).off + 3, none⟩ = some (.slice pa s.ps.length pc) ∧ w.cell? ⟨(ad.add (i * 7)).block, (ad.add (i * 7)).off + 4, none⟩ = some (.string s.x.word) ∧
    w.cell? ⟨(ad.add (i * 7)).block, (ad.add (i * 7)).off + 4 + 1, none⟩ = some (.bool s.x.list) ∧ w.cell? ⟨(ad.add (i * 7)).block, (ad.add (i * 7)).off + 4 + 2, none⟩ = some (.slice xa s.x.kids.length xc) ∧
    i64ok s.what ∧ i64ok s.sort ∧ s.name.size ≤ maxLen ∧ s.ps.length ≤ pc ∧ pc ≤ 9223372036854775807 ∧ s.ps.length ≤ 140737488355328 ∧ ParArg B w s.ps pa ∧ RT w (fun k => k < B) s.x [.string s.x.word, .bool s.x.list, .slice xa s.x.kids.length xc] := by
  obtain ⟨ad, cs, h1, h2, h3, pa, pc, xa, xc, rfl, k⟩ := h i s hi
  refine ⟨ad, pa, pc, xa, xc, h1, h2, by simpa using h3 0 _ rfl, ?_, ?_, ?_, ?_, ?_, ?_, k⟩
  · rw [add_field7 _ _ 1 (by omega)]; exact h3 1 _ rfl
  · rw [add_field7 _ _ 2 (by omega)]; exact h3 2 _ rfl
  · rw [add_field7 _ _ 3 (by omega)]; exact h3 3 _ rfl
  · rw [add_field7 _ _ 4 (by omega)]; exact h3 4 _ rfl
  · rw [Nat.add_assoc, add_field7 _ _ 5 (by omega)]; exact h3 5 _ rfl
  · rw [Nat.add_assoc, add_field7 _ _ 6 (by omega)]; exact h3 6 _ rfl
theorem par_cell {B : Nat} {w : World} {ps : List (ByteArray × Int)} {pa : Option Addr} (h : ParArg B w ps pa) (j : Nat) (p : ByteArray × Int) (hj : ps[j]? = some p) : ∃ ad, pa = some ad ∧ p.1.size ≤ 140737488355328 ∧ w.cell? (ad.add (j * 2)) = some (.string p.1) := by
  obtain ⟨h1, _, ad, h3, _, h5, _⟩ := h j p hj
  exact ⟨ad, h3, h1, h5⟩
def LightPost (l : List Stp) (w : World) (e : Ending) (w' : World) : Prop := (∃ b, e = .returned (.bool b) ∧ (b = true → l.length ≤ 800 ∧ ∀ s ∈ l, s.ps.length ≤ 800)) ∧ Below w.heap.size w w'
set_option maxHeartbeats 20000000 in
theorem light_law (l : List Stp) (A : Option Addr) (c : Nat) (w : World) (h : StpsOk w.heap.size w l A) (hlen : l.length ≤ 140737488355328) :
    Calls Tryz.prog 31 #[.slice A l.length c] w fun e w' => LightPost l w e w' := by
  obtain ⟨N, hN⟩ : ∃ N, l.length = N := ⟨_, rfl⟩
  rw [hN] at hlen ⊢
  have AN := Aside0.mk hN
  have HL := Aside0.mk h
  have hN1 : (N : Int) ≤ 140737488355328 := by omega
  clear h hN
  go_enter Tryz.func31, Tryz.ntmps31
  go_wp2_with fail
  go_loopw [3, 4, 5] (fun v3 v4 v5 wr => ∃ (i : Nat) (n : Int), i ≤ N ∧ v4 = .int .i64 (i : Int) ∧ v3 = .int .i64 n ∧ (N : Int) ≤ n ∧ n ≤ 4611686018427387904 ∧ Aside0 (∀ (j : Nat) (s : Stp), j < i → l[j]? = some s → (s.ps.length : Int) ≤ n) ∧ Aside0 (Below w.heap.size w wr)) (fun _ v4 _ _ => N - (intOf v4).toNat)
  case atStart => exact ⟨0, N, by omega, rfl, rfl, by omega, by omega, ⟨fun j s hj => by omega⟩, ⟨Below.refl _ _⟩⟩
  case round =>
    obtain ⟨i, n, hi, rfl, rfl, hn1, hn2, HP, HB⟩ := hrel
    by_cases hlt : i < N
    · have i0 : (0 : Int) ≤ (i : Int) := by omega
      have i1 : (i : Int) < (N : Int) := by omega
      by_cases hn8 : n ≤ 800
      · obtain ⟨s, hs⟩ : ∃ s, l[i]? = some s := ⟨_, List.getElem?_eq_getElem (by rw [AN.out]; exact hlt)⟩
        obtain ⟨ad, pa, pc, xa, xc, rfl, had, _, _, c2, c3, c4, c5, c6, _, _, hnz, hpc, hpm, hpl, hpar, hrt⟩ := step_cells HL.out i s hs
        obtain ⟨nm, hnm⟩ : ∃ v, s.name = v := ⟨_, rfl⟩
        obtain ⟨P, hP⟩ : ∃ v, s.ps.length = v := ⟨_, rfl⟩
        obtain ⟨xw, hxw⟩ : ∃ v, s.x.word = v := ⟨_, rfl⟩
        obtain ⟨xl, hxl⟩ : ∃ v, s.x.list = v := ⟨_, rfl⟩
        obtain ⟨xk, hxk⟩ : ∃ v, s.x.kids.length = v := ⟨_, rfl⟩
        rw [hnm] at c2 hnz
        rw [hP] at c3 hpc hpl
        rw [hxw] at c4
        rw [hxl] at c5
        rw [hxk] at c6
        rw [hxw, hxl, hxk] at hrt
        have C2 := Aside0.mk c2
        have C3 := Aside0.mk c3
        have C4 := Aside0.mk c4
        have C5 := Aside0.mk c5
        have C6 := Aside0.mk c6
        have HPA := Aside0.mk hpar
        have HRT := Aside0.mk hrt
        have HSS := Aside0.mk hs
        have HPP := Aside0.mk hP
        have hnz2 : (nm.size : Int) ≤ 9223372036854775807 := by unfold maxLen at hnz; omega
        have hpl2 : (P : Int) ≤ 140737488355328 := by omega
        clear c2 c3 c4 c5 c6 hpar hrt hs hP hnm hxw hxl hxk had hnz
        go_upto_region 5 with (fail)
        refine wp_plan [(0, 0), (0, 1), (0, 2), (0, 3), (0, 4), (0, 8), (0, 9), (0, 10), (0, 11), (0, 16), (0, 17), (0, 18), (0, 19), (1, 5), (1, 12), (0, 13), (0, 14), (1, 20), (0, 21), (2, 6), (0, 7), (0, 15), (0, 22), (0, 23)] (fun w' => Below w.heap.size w w') (by kernel_rfl) (by kernel_rfl) (fun _ _ d _ _ h => by cases d <;> exact h) HB.out.drew ?_
        simp only [planOps, List.filterMap_cons, List.filterMap_nil, List.getElem?_toArray, List.getElem?_cons_zero, List.getElem?_cons_succ, Option.map_some]
        repeat (first
          | (refine' plan_pu _ (by rfl) (fun w' => ?_) ?_; rotate_left 1; (focus (go_simp; try (with_reducible rfl))); (try simp only [wrapi_0, wrapi_1, wrapi_2, wrapi_3, wrapi_4]); simp only [Act.put, List.setIfInBounds_toArray, List.set_cons_zero, List.set_cons_succ])
          | (refine' plan_off (by rfl) ?_; (try simp only [wrapi_0, wrapi_1, wrapi_2, wrapi_3, wrapi_4]); simp only [Act.put, List.setIfInBounds_toArray, List.set_cons_zero, List.set_cons_succ])
          | (refine' plan_offL (by rfl) ?_; (try simp only [wrapi_0, wrapi_1, wrapi_2, wrapi_3, wrapi_4]); simp only [Act.put, List.setIfInBounds_toArray, List.set_cons_zero, List.set_cons_succ])
          | (refine' plan_offE (by rfl) (by first | assumption | exact (by assumption)) ?_; (try simp only [wrapi_0, wrapi_1, wrapi_2, wrapi_3, wrapi_4]); simp only [Act.put, List.setIfInBounds_toArray, List.set_cons_zero, List.set_cons_succ])
          | (refine' plan_ld _ (by rfl) (fun w' hSw => ?_) ?_; rotate_left 1; (focus ((try dsimp only at hSw); have c2 := cell_below hSw C2.out; have c3 := cell_below hSw C3.out; have c4 := cell_below hSw C4.out; have c5 := cell_below hSw C5.out; have c6 := cell_below hSw C6.out; go_simp; try (with_reducible rfl))); (try simp only [wrapi_0, wrapi_1, wrapi_2, wrapi_3, wrapi_4]); simp only [Act.put, List.setIfInBounds_toArray, List.set_cons_zero, List.set_cons_succ]))
        have hrt1 : RT wr.drew (fun k => k < wr.drew.heap.size) s.x [.string xw, .bool xl, .slice xa xk xc] := RT_move (w' := wr.drew) (fun k hk => (show wr.drew.heap[k]? = w.heap[k]? from HB.out.block k hk)) (fun k hk => Nat.lt_of_lt_of_le hk HB.out.size) _ _ HRT.out
        refine plan_ef (fun K hK => ?_)
        go_simp
        refine (light_any s.x.dep s.x (Nat.le_refl _) _ 800 230 _ hrt1 (by omega) (by omega) (by omega) (by omega)).mono ?_
        rintro e w2 ⟨⟨r, rfl, hr1, hr2, _⟩, hB2⟩
        have HB2 := Aside0.mk (HB.out.drew.trans (hB2.mono HB.out.size))
        refine hK.out _ _ (HB2.out) (fun _ => ?_)
        clear hK K
        try (try simp only [wrapi_0, wrapi_1, wrapi_2, wrapi_3, wrapi_4]); simp only [Act.put, List.setIfInBounds_toArray, List.set_cons_zero, List.set_cons_succ]
        clear hB2 hrt1
        obtain ⟨q, hq⟩ : ∃ q : Int, IntKind.i64.wrap ((nm.size : Int) / 8) = q := ⟨_, rfl⟩
        have hqb : 0 ≤ q ∧ q ≤ 1152921504606846976 := by rw [← hq, IntKind.wrap_i64]; omega
        have s1 : IntKind.i64.wrap (n + r) = n + r := IntWalk.i64_in _ (by omega)
        have s2 : IntKind.i64.wrap (n + r + q) = n + r + q := IntWalk.i64_in _ (by omega)
        have s3 : IntKind.i64.wrap (n + r + q + P) = n + r + q + P := IntWalk.i64_in _ (by omega)
        rw [hq]
        clear hq
        repeat (first
          | (refine' plan_pu _ (by rfl) (fun w' => ?_) ?_; rotate_left 1; (focus (go_simp; try (with_reducible rfl))); (try simp only [wrapi_0, wrapi_1, wrapi_2, wrapi_3, wrapi_4]); simp only [Act.put, List.setIfInBounds_toArray, List.set_cons_zero, List.set_cons_succ])
          | (refine' plan_off (by rfl) ?_; (try simp only [wrapi_0, wrapi_1, wrapi_2, wrapi_3, wrapi_4]); simp only [Act.put, List.setIfInBounds_toArray, List.set_cons_zero, List.set_cons_succ])
          | (refine' plan_offL (by rfl) ?_; (try simp only [wrapi_0, wrapi_1, wrapi_2, wrapi_3, wrapi_4]); simp only [Act.put, List.setIfInBounds_toArray, List.set_cons_zero, List.set_cons_succ])
          | (refine' plan_offE (by rfl) (by first | assumption | exact (by assumption)) ?_; (try simp only [wrapi_0, wrapi_1, wrapi_2, wrapi_3, wrapi_4]); simp only [Act.put, List.setIfInBounds_toArray, List.set_cons_zero, List.set_cons_succ])
          | (refine' plan_ld _ (by rfl) (fun w' hSw => ?_) ?_; rotate_left 1; (focus ((try dsimp only at hSw); skip; go_simp; try (with_reducible rfl))); (try simp only [wrapi_0, wrapi_1, wrapi_2, wrapi_3, wrapi_4]); simp only [Act.put, List.setIfInBounds_toArray, List.set_cons_zero, List.set_cons_succ]))
        refine plan_nil ?_
        obtain ⟨n2, hn2e⟩ : ∃ n2, n + r + q + P = n2 := ⟨_, rfl⟩
        try rw [hn2e]
        have hn2b : (N : Int) ≤ n2 ∧ n ≤ n2 ∧ (P : Int) ≤ n2 ∧ n2 ≤ 3700000000000000000 := by omega
        clear s1 s2 s3 hqb hr1 hr2 hn2e
        go_wp2_with fail
        go_loopw [3, 5] (fun v3 v5 wq => ∃ (k : Nat) (m : Int), k ≤ P ∧ k ≤ 50 ∧ v5 = .int .i64 (k : Int) ∧ v3 = .int .i64 m ∧ n2 ≤ m ∧ m ≤ n2 + 17592186044416 * (k : Int) ∧ Aside0 (Below w.heap.size w wq)) (fun _ v5 _ => P - (intOf v5).toNat)
        case atStart => exact ⟨0, n2, by omega, by omega, rfl, rfl, by omega, by omega, HB2⟩
        case round =>
          obtain ⟨k, m, hk, hk50, rfl, rfl, hm1, hm2, HBq⟩ := hrel
          have HPN : Aside0 (∀ (j : Nat) (s : Stp), j < i + 1 → l[j]? = some s → (s.ps.length : Int) ≤ m) := ⟨fun j s' hj hjs => by
            by_cases hji : j < i
            · have := HP.out j s' hji hjs; omega
            · have : j = i := by omega
              subst this
              rw [HSS.out] at hjs; cases hjs
              rw [HPP.out]; omega⟩
          have c3 := cell_below HBq.out C3.out
          by_cases hlt2 : k < P
          · have k0 : (0 : Int) ≤ (k : Int) := by omega
            have k1 : (k : Int) < (P : Int) := by omega
            by_cases hk5 : k < 50
            · have k2 : (k : Int) < 50 := by omega
              obtain ⟨p, hp⟩ : ∃ p, s.ps[k]? = some p := ⟨_, List.getElem?_eq_getElem (by rw [HPP.out]; exact hlt2)⟩
              obtain ⟨ad2, rfl, hpz, hpc⟩ := par_cell HPA.out k p hp
              have q0 := cell_below HBq.out hpc
              obtain ⟨pn, hpn⟩ : ∃ v, p.1 = v := ⟨_, rfl⟩
              rw [hpn] at q0 hpz
              obtain ⟨q, hq⟩ : ∃ q : Int, (pn.size : Int) / 8 = q := ⟨_, rfl⟩
              have hqb : 0 ≤ q ∧ q ≤ 17592186044416 := by omega
              have t1 : IntKind.i64.wrap ((pn.size : Int) / 8) = q := by rw [hq]; exact IntWalk.i64_in _ (by omega)
              have t2 : IntKind.i64.wrap q = q := IntWalk.i64_in _ (by omega)
              have t3 : IntKind.i64.wrap (m + q) = m + q := IntWalk.i64_in _ (by omega)
              clear hpc hpn hp hlt2 hk5
              go_wp2_with fail
              go_roundw
              case rel => exact ⟨k + 1, m + q, by omega, by omega, by go_num, rfl, by omega, by omega, HBq⟩
              case measure => simp [intOf]; omega
            · have k2 : ¬ (k : Int) < 50 := by omega
              clear hk5
              go_wp2_with fail
              go_roundw
              case rel => exact ⟨i + 1, m, by omega, by go_num, rfl, by omega, by omega, HPN, HBq⟩
              case measure => simp [intOf]; omega
          · have k1 : ¬ (k : Int) < (P : Int) := by omega
            clear hlt2
            go_wp2_with fail
            go_roundw
            case rel => exact ⟨i + 1, m, by omega, by go_num, rfl, by omega, by omega, HPN, HBq⟩
            case measure => simp [intOf]; omega
      · have hn9 : ¬ n ≤ 800 := hn8
        have hn10 : (800 : Int) < n := by omega
        clear hn8 hn9
        go_wp2_with fail
        go_returns
        exact ⟨⟨decide (n ≤ 800), rfl, fun q => absurd (of_decide_eq_true q) (by omega)⟩, HB.out⟩
    · have i1 : ¬ (i : Int) < (N : Int) := by omega
      have hall : i = N := by omega
      have HF : Aside0 (n ≤ 800 → l.length ≤ 800 ∧ ∀ s ∈ l, s.ps.length ≤ 800) := ⟨fun q => ⟨by rw [AN.out]; omega, fun s hs => by
        obtain ⟨j, hj, rfl⟩ := List.getElem_of_mem hs
        have := HP.out j _ (by rw [hall, ← AN.out]; exact hj) (List.getElem?_eq_getElem hj)
        omega⟩⟩
      clear hall
      by_cases hn8 : n ≤ 800
      · go_wp2_with fail
        go_returns
        exact ⟨⟨true, rfl, fun _ => HF.out hn8⟩, HB.out⟩
      · have hn10 : (800 : Int) < n := by omega
        clear hn8
        go_wp2_with fail
        go_returns
        exact ⟨⟨decide (n ≤ 800), rfl, fun q => absurd (of_decide_eq_true q) (by omega)⟩, HB.out⟩
end Go.Proofs.YthhnhbpmpdminaaGreatDoor
