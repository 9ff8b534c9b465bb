/-
The law SexpBack tells true. Conditions: the cell of errors.errorType; the thing lies in memory; the text's length fits an int.
-/
import Derived.Test.YtdhfjaekhibaaaaDoorKno
import Derived.Test.YtdhfjaekhibaaaaDoorLpr
import Derived.Test.YtdhfjaekhibaaaaDoorRcl
namespace Go.Proofs.YtdhfjaekhibaaaaDoor
set_option maxRecDepth 100000
open Go.RowKit Go.Proofs.YtdhfjaekhibaaaaDoorW.PrintWords Go.Proofs.YtdhfjaekhibaaaaDoorW.PrintLast

theorem clean_200 (x : Sx) (c : List Value) (w : World) (h : RT w (fun k => k < w.heap.size) x c) :
    Calls Tryd.prog 21 #[.agg c.toArray, .int .i64 200] w fun e w' => e = .returned (.bool (cleanB 200 x)) ∧ Below w.heap.size w w' := clean_any _ x (Nat.le_refl _) c 200 w (by decide) h
theorem cleanL_get {d : Nat} {l : List Sx} (h : cleanL d l = true) (i : Nat) (hi : i < l.length) : cleanB d l[i] = true := by
  cases hc : cleanB d l[i] with
  | true => rfl
  | false => rw [cleanL_not d l i hi hc] at h; cases h
theorem prT_succ (l : List Sx) (i : Nat) (h : i < l.length) : prT (l.take (i + 1)) = prT (l.take i) ++ 32 :: pr l[i] := by
  rw [List.take_succ_eq_append_getElem h, prT_append]; simp [prT]
theorem prT_take (l : List Sx) (i : Nat) : (prT (l.take i)).length ≤ (prT l).length := by
  have := prT_append (l.take i) (l.drop i)
  rw [List.take_append_drop] at this
  rw [this]; simp

set_option maxHeartbeats 4000000 in
theorem lawBack (x : Sx) (c : List Value) (s : ByteArray) (w : World) (hs : s.size ≤ 9223372036854775807) (hc : RT w (fun k => k < w.heap.size) x c) (hE : EV w) :
    Calls Tryd.prog 5 #[.agg c.toArray, .string s] w fun e w' => e = .returned (.bool true) ∧ Below w.heap.size w w' := by
  obtain ⟨A, k, rfl, hk, hm, hws, hR⟩ := RT_cells hc
  have AC := Aside0.mk hc
  have AE := Aside0.mk hE
  clear hc hR hE
  go_enter Tryd.func5, Tryd.ntmps5
  go_wp2_with fail
  have hc0 : Cells (w.alloc (.cells #[.string x.word, .bool x.list, .slice A x.kids.length k] 35)) w.heap.size 35 [.string x.word, .bool x.list, .slice A x.kids.length k] := Cells.new _ _ _
  have hm0 : Mod (fun _ => False) w (w.alloc (.cells #[.string x.word, .bool x.list, .slice A x.kids.length k] 35)) := (Mod.refl _ _).alloc _
  generalize (w.alloc (.cells #[.string x.word, .bool x.list, .slice A x.kids.length k] 35)) = w0 at hc0 hm0 ⊢
  have AB := Aside0.mk hc0
  have AM0 := Aside0.mk hm0
  clear hc0 hm0
  refine (known_any w0 (AM0.out.cell AE.out)).mono ?_
  rintro e w1 ⟨rfl, hb1⟩
  have AM1 := Aside0.mk (Mod.step (Mod.refl (fun _ => False) w0) hb1)
  have hcw := AB.out.keep AM1.out (fun h => h)
  have q0 := hcw.cell 0 _ rfl
  have q1 := hcw.cell 1 _ rfl
  have q2 := hcw.cell 2 _ rfl
  clear hb1 hcw
  go_wp2_with fail
  refine (light_any _ x (Nat.le_refl _) [.string x.word, .bool x.list, .slice A x.kids.length k] 2000 300 _ ((AM0.out.trans AM1.out).RT AC.out) (by decide) (by decide) (by decide) (by decide)).mono ?_
  rintro e w2 ⟨⟨n, rfl, hn1, hn2, hn3⟩, hb2⟩
  have AM2 := Aside0.mk (AM1.out.step hb2)
  clear hb2 q0 q1 q2
  by_cases hn : n ≤ 2000
  · by_cases hg : 6000 < s.size
    · have g1 : (6000 : Int) < (s.size : Int) := by omega
      clear hn3
      go_wp2_with fail
      go_returns
      exact ⟨rfl, (AM0.out.trans AM2.out).below⟩
    · have g1 : (s.size : Int) ≤ 6000 := by omega
      have hw := hn3 hn
      have hp1 := pr_wt x
      have HP := Aside0.mk (show (pr x).length ≤ 65536 by omega)
      have hcw := AB.out.keep AM2.out (fun h => h)
      have q0 := hcw.cell 0 _ rfl
      have q1 := hcw.cell 1 _ rfl
      have q2 := hcw.cell 2 _ rfl
      clear hn3 hw hp1 hcw
      go_wp2_with fail
      refine (clean_200 x [.string x.word, .bool x.list, .slice A x.kids.length k] _ ((AM0.out.trans AM2.out).RT AC.out)).mono ?_
      rintro e WK ⟨rfl, hb3⟩
      have AMK := Aside0.mk (AM2.out.step hb3)
      clear hb3 q0 q1 q2
      cases hcl : cleanB 200 x with
      | false =>
        clear hcl
        go_wp2_with fail
        refine (parse_any s WK hs).mono ?_
        rintro e wp ⟨hp, hbp⟩
        have AMP := Aside0.mk (AMK.out.step hbp)
        cases hR : parse s.data.toList with
        | error z =>
          obtain ⟨a, n⟩ := z
          rw [hR] at hp
          obtain ⟨v2, rfl, b2, rfl, _⟩ := hp
          clear hR hbp
          go_wp2_with fail
          go_returns
          exact ⟨rfl, (AM0.out.trans AMP.out).below⟩
        | ok L =>
          rw [hR] at hp
          obtain ⟨A1, c1, rfl, hc1, hc2, hRL⟩ := hp
          have HCL := Aside0.mk (parse_clean hR)
          have HRL := Aside0.mk (RL_up hRL (Below.refl _ _))
          have hb1 : (L.length : Int) ≤ 9223372036854775807 := by omega
          clear hR hbp hRL
          go_wp2_with fail
          go_loopw [9, 10] (fun v9 v wr => ∃ i : Nat, i ≤ L.length ∧ v = .int .i64 (i : Int) ∧ v9 = .string (bV (prT (L.take i))) ∧ Aside0 (Mod (fun _ => False) wp wr)) (fun _ v _ => L.length - (intOf v).toNat)
          case atStart => exact ⟨0, Nat.zero_le _, rfl, by simp [prT, bV], ⟨Mod.refl _ _⟩⟩
          case round =>
            obtain ⟨i, hi, rfl, rfl, AM⟩ := hrel
            by_cases hlt : i < L.length
            · have i0 : (0 : Int) ≤ (i : Int) := by omega
              have i1 : (i : Int) < (L.length : Int) := by omega
              obtain ⟨a1, B1, d1', rfl, hs1, ht1, -, z11, z12, z13⟩ := RL_kid (AM.out.RL HRL.out) i hlt
              have AT := Aside0.mk ht1
              have ACL := Aside0.mk (cleanL_get HCL.out.1 i hlt)
              have AE := Aside0.mk (prT_succ L i hlt)
              have hle := prT_take L (i + 1)
              have htot := HCL.out.2
              rw [AE.out] at hle
              simp at hle
              have hl' : s.data.toList.length = s.size := by rw [Array.length_toList]; rfl
              have HPK := Aside0.mk (show (pr L[i]).length ≤ 140737488355328 by omega)
              have hsum1 : (bV (prT (L.take i))).size + 1 ≤ 9223372036854775807 := by rw [bV_size]; omega
              have hsum2 : (bV (prT (L.take i)) ++ ⟨#[32]⟩).size + (bV (pr L[i])).size ≤ 9223372036854775807 := by
                rw [show (⟨#[32]⟩ : ByteArray) = bV [32] from rfl, bV_append, bV_size, bV_size]; simp; omega
              clear ht1 hle htot
              go_wp2_with fail
              refine (clean_200 L[i] [.string L[i].word, .bool L[i].list, .slice B1 L[i].kids.length d1'] _ AT.out).mono ?_
              rintro e w2 ⟨rfl, hb⟩
              rw [ACL.out]
              have hmb := Mod.of_below (S := fun _ => False) hb
              have y11 := hmb.cell z11
              have y12 := hmb.cell z12
              have y13 := hmb.cell z13
              have AT2 := Aside0.mk (hmb.RT AT.out)
              have AMB := Aside0.mk (AM.out.step hb)
              clear hmb hb z11 z12 z13
              go_wp2_with fail
              refine (Print_bV L[i] [.string L[i].word, .bool L[i].list, .slice B1 L[i].kids.length d1'] _ AT2.out HPK.out).mono ?_
              rintro e w3 ⟨rfl, hb⟩
              go_wp2_with fail
              go_roundw
              case rel => exact ⟨i + 1, by omega, by go_num, by rw [show (⟨#[32]⟩ : ByteArray) = bV [32] from rfl, bV_append, bV_append, AE.out]; simp, ⟨AMB.out.step hb⟩⟩
              case measure => simp [intOf]; omega
            · have i1 : (L.length : Int) ≤ (i : Int) := by omega
              have hall : i = L.length := by omega
              subst hall
              rw [List.take_length]
              have htot := HCL.out.2
              have hl' : s.data.toList.length = s.size := by rw [Array.length_toList]; rfl
              have HPR := Aside0.mk (parse_prT L HCL.out.1 (by omega))
              have hsz : (bV (prT L)).size ≤ 9223372036854775807 := by rw [bV_size]; omega
              clear htot
              go_wp2_with fail
              refine (parse_any (bV (prT L)) _ hsz).mono ?_
              rintro e w2 ⟨hp, hb⟩
              have hp' : ParseOut wr w2 e (parse (prT L)) := by simpa [bV] using hp
              rw [HPR.out] at hp'
              obtain ⟨A2, c2, rfl, hc21, hc22, hRL2⟩ := hp'
              have AR2 := Aside0.mk (RL_up hRL2 (Below.refl _ _))
              have AR1 := Aside0.mk ((AM.out.step hb).RL HRL.out)
              have AM2 := Aside0.mk (AM.out.step hb)
              clear hp hb hRL2
              go_wp2_with fail
              refine (same_list L A1 A2 c1 c2 w2 (by omega) AR1.out AR2.out).mono ?_
              rintro e w3 ⟨rfl, hb⟩
              have AM3 := Aside0.mk (AM2.out.step hb)
              clear hb
              go_wp2_with fail
              go_returns
              exact ⟨rfl, (AM0.out.trans (AMP.out.trans AM3.out)).below⟩
      | true =>
        have HCX := Aside0.mk hcl
        have AM3 := AMK
        have hcw := AB.out.keep AM3.out (fun h => h)
        have q0 := hcw.cell 0 _ rfl
        have q1 := hcw.cell 1 _ rfl
        have q2 := hcw.cell 2 _ rfl
        have hbv : (bV (pr x)).size ≤ 9223372036854775807 := by rw [bV_size]; have := HP.out; omega
        have hbv2 : ((bV (pr x)).size : Int) ≤ 65536 := by rw [bV_size]; have := HP.out; omega
        clear hcl hcw AMK
        go_wp2_with fail
        refine (Print_bV x [.string x.word, .bool x.list, .slice A x.kids.length k] _ ((AM0.out.trans AM3.out).RT AC.out) (by have := HP.out; omega)).mono ?_
        rintro e w4 ⟨rfl, hb4⟩
        have AM4 := Aside0.mk (AM3.out.step hb4)
        have hcw := AB.out.keep AM4.out (fun h => h)
        have r0 := hcw.cell 0 _ rfl
        have r1 := hcw.cell 1 _ rfl
        have r2 := hcw.cell 2 _ rfl
        clear hb4 hcw q0 q1 q2
        go_wp2_with fail
        refine (Print_bV x [.string x.word, .bool x.list, .slice A x.kids.length k] _ ((AM0.out.trans AM4.out).RT AC.out) (by have := HP.out; omega)).mono ?_
        rintro e w5 ⟨rfl, hb5⟩
        have AM5 := Aside0.mk (AM4.out.step hb5)
        clear hb5 r0 r1 r2
        go_wp2_with fail
        refine (parse_any (bV (pr x)) _ hbv).mono ?_
        rintro e w6 ⟨hp, hb6⟩
        have hp' : ParseOut w5 w6 e (parse (pr x)) := by simpa [bV] using hp
        rw [parse_pr x HCX.out HP.out] at hp'
        obtain ⟨A6, c6, rfl, hc61, hc62, hRL6⟩ := hp'
        obtain ⟨a6, B6, d6, rfl, ht6, z61, z62, z63⟩ := kid0 (RL_up hRL6 (Below.refl _ _))
        have AM6 := Aside0.mk (AM5.out.step hb6)
        have AT6 := Aside0.mk ht6
        clear hp hb6 hRL6 ht6
        go_wp2_with fail
        refine wp_plan [(0, 0), (0, 1), (0, 2), (0, 3), (0, 4), (0, 5), (0, 6), (0, 7), (0, 8), (0, 9), (1, 10), (1, 11), (3, 12), (0, 13), (0, 14)]
          (fun w' => Mod (fun _ => False) w6 w') (by kernel_rfl) (by kernel_rfl) (fun _ _ d _ _ h => by cases d <;> exact h) (Mod.refl _ _).drew ?_
        simp only [planOps, List.filterMap_cons, List.filterMap_nil, List.getElem?_toArray, List.getElem?_cons_zero, List.getElem?_cons_succ, Option.map_some]
        repeat (first
          | (refine' plan_pu _ (by rfl) (fun w' => ?_) ?_; rotate_left 1; (focus (go_simp; try (with_reducible rfl))); simp only [Act.put, List.setIfInBounds_toArray, List.set_cons_zero, List.set_cons_succ])
          | (refine' plan_ld _ (by rfl) (fun w' hSw => ?_) ?_; rotate_left 1; (focus ((try dsimp only at hSw); have hcw := AB.out.keep (AM6.out.trans hSw) (fun h => h); have q0 := hcw.cell 0 _ rfl; have q1 := hcw.cell 1 _ rfl; have q2 := hcw.cell 2 _ rfl; clear hcw; have e1 := hSw.cell z61; have e2 := hSw.cell z62; have e3 := hSw.cell z63; go_simp; try (with_reducible rfl))); simp only [Act.put, List.setIfInBounds_toArray, List.set_cons_zero, List.set_cons_succ]))
        refine plan_fi (fun K hK => ?_)
        go_simp
        refine (same_any _ x (Nat.le_refl _) [.string x.word, .bool x.list, .slice B6 x.kids.length d6] [.string x.word, .bool x.list, .slice A x.kids.length k] _ ((Mod.refl (fun _ => False) w6).drew.RT AT6.out) (((AM0.out.trans AM6.out).drew).RT AC.out)).mono ?_
        rintro e WK ⟨rfl, hb7⟩
        have AMK := Aside0.mk (AM6.out.drew.step hb7)
        refine hK.out _ _ ?_
        clear hK K hb7
        repeat (first
          | (refine' plan_pu _ (by rfl) (fun w' => ?_) ?_; rotate_left 1; (focus (go_simp; try (with_reducible rfl))); simp only [Act.put, List.setIfInBounds_toArray, List.set_cons_zero, List.set_cons_succ]))
        refine plan_nil ?_
        clear hbv hbv2 z61 z62 z63
        go_wp2_with fail
        refine (parse_any s WK hs).mono ?_
        rintro e wp ⟨hp, hbp⟩
        have AMP := Aside0.mk (AMK.out.step hbp)
        cases hR : parse s.data.toList with
        | error z =>
          obtain ⟨a, n⟩ := z
          rw [hR] at hp
          obtain ⟨v2, rfl, b2, rfl, _⟩ := hp
          clear hR hbp
          go_wp2_with fail
          go_returns
          exact ⟨rfl, (AM0.out.trans AMP.out).below⟩
        | ok L =>
          rw [hR] at hp
          obtain ⟨A1, c1, rfl, hc1, hc2, hRL⟩ := hp
          have HCL := Aside0.mk (parse_clean hR)
          have HRL := Aside0.mk (RL_up hRL (Below.refl _ _))
          have hb1 : (L.length : Int) ≤ 9223372036854775807 := by omega
          clear hR hbp hRL
          go_wp2_with fail
          go_loopw [9, 10] (fun v9 v wr => ∃ i : Nat, i ≤ L.length ∧ v = .int .i64 (i : Int) ∧ v9 = .string (bV (prT (L.take i))) ∧ Aside0 (Mod (fun _ => False) wp wr)) (fun _ v _ => L.length - (intOf v).toNat)
          case atStart => exact ⟨0, Nat.zero_le _, rfl, by simp [prT, bV], ⟨Mod.refl _ _⟩⟩
          case round =>
            obtain ⟨i, hi, rfl, rfl, AM⟩ := hrel
            by_cases hlt : i < L.length
            · have i0 : (0 : Int) ≤ (i : Int) := by omega
              have i1 : (i : Int) < (L.length : Int) := by omega
              obtain ⟨a1, B1, d1', rfl, hs1, ht1, -, z11, z12, z13⟩ := RL_kid (AM.out.RL HRL.out) i hlt
              have AT := Aside0.mk ht1
              have ACL := Aside0.mk (cleanL_get HCL.out.1 i hlt)
              have AE := Aside0.mk (prT_succ L i hlt)
              have hle := prT_take L (i + 1)
              have htot := HCL.out.2
              rw [AE.out] at hle
              simp at hle
              have hl' : s.data.toList.length = s.size := by rw [Array.length_toList]; rfl
              have HPK := Aside0.mk (show (pr L[i]).length ≤ 140737488355328 by omega)
              have hsum1 : (bV (prT (L.take i))).size + 1 ≤ 9223372036854775807 := by rw [bV_size]; omega
              have hsum2 : (bV (prT (L.take i)) ++ ⟨#[32]⟩).size + (bV (pr L[i])).size ≤ 9223372036854775807 := by
                rw [show (⟨#[32]⟩ : ByteArray) = bV [32] from rfl, bV_append, bV_size, bV_size]; simp; omega
              clear ht1 hle htot
              go_wp2_with fail
              refine (clean_200 L[i] [.string L[i].word, .bool L[i].list, .slice B1 L[i].kids.length d1'] _ AT.out).mono ?_
              rintro e w2 ⟨rfl, hb⟩
              rw [ACL.out]
              have hmb := Mod.of_below (S := fun _ => False) hb
              have y11 := hmb.cell z11
              have y12 := hmb.cell z12
              have y13 := hmb.cell z13
              have AT2 := Aside0.mk (hmb.RT AT.out)
              have AMB := Aside0.mk (AM.out.step hb)
              clear hmb hb z11 z12 z13
              go_wp2_with fail
              refine (Print_bV L[i] [.string L[i].word, .bool L[i].list, .slice B1 L[i].kids.length d1'] _ AT2.out HPK.out).mono ?_
              rintro e w3 ⟨rfl, hb⟩
              go_wp2_with fail
              go_roundw
              case rel => exact ⟨i + 1, by omega, by go_num, by rw [show (⟨#[32]⟩ : ByteArray) = bV [32] from rfl, bV_append, bV_append, AE.out]; simp, ⟨AMB.out.step hb⟩⟩
              case measure => simp [intOf]; omega
            · have i1 : (L.length : Int) ≤ (i : Int) := by omega
              have hall : i = L.length := by omega
              subst hall
              rw [List.take_length]
              have htot := HCL.out.2
              have hl' : s.data.toList.length = s.size := by rw [Array.length_toList]; rfl
              have HPR := Aside0.mk (parse_prT L HCL.out.1 (by omega))
              have hsz : (bV (prT L)).size ≤ 9223372036854775807 := by rw [bV_size]; omega
              clear htot
              go_wp2_with fail
              refine (parse_any (bV (prT L)) _ hsz).mono ?_
              rintro e w2 ⟨hp, hb⟩
              have hp' : ParseOut wr w2 e (parse (prT L)) := by simpa [bV] using hp
              rw [HPR.out] at hp'
              obtain ⟨A2, c2, rfl, hc21, hc22, hRL2⟩ := hp'
              have AR2 := Aside0.mk (RL_up hRL2 (Below.refl _ _))
              have AR1 := Aside0.mk ((AM.out.step hb).RL HRL.out)
              have AM2 := Aside0.mk (AM.out.step hb)
              clear hp hb hRL2
              go_wp2_with fail
              refine (same_list L A1 A2 c1 c2 w2 (by omega) AR1.out AR2.out).mono ?_
              rintro e w3 ⟨rfl, hb⟩
              have AM3 := Aside0.mk (AM2.out.step hb)
              clear hb
              go_wp2_with fail
              go_returns
              exact ⟨rfl, (AM0.out.trans (AMP.out.trans AM3.out)).below⟩
  · have hn' : 2000 < n := by omega
    clear hn3
    go_wp2_with fail
    go_returns
    exact ⟨rfl, (AM0.out.trans AM2.out).below⟩
end Go.Proofs.YtdhfjaekhibaaaaDoor
