/-
The law SexpBlanks tells true. Conditions: the cell of errors.errorType; the things lie in memory.
-/
import Derived.Test.YtdhfjaekhibaaaaDoorKno
import Derived.Test.YtdhfjaekhibaaaaDoorLbk
import Derived.Test.YtdhfjaekhibaaaaDoorBlk
import Derived.Laws.Bits128
namespace Go.Proofs.YtdhfjaekhibaaaaDoor
set_option maxRecDepth 100000
open Go.RowKit Go.Proofs.YtdhfjaekhibaaaaDoorW.PrintWords Go.Proofs.YtdhfjaekhibaaaaDoorW.PrintLast

theorem clean_100 (x : Sx) (c : List Value) (w : World) (h : RT w (fun k => k < w.heap.size) x c) :
    Calls Tryd.prog 21 #[.agg c.toArray, .int .i64 100] w fun e w' => e = .returned (.bool (cleanB 100 x)) ∧ Below w.heap.size w w' := clean_any _ x (Nat.le_refl _) c 100 w (by decide) h
theorem and3 (n : Int) : bits .and .i64 n 3 = n % 4 := by
  have h3 : (BitVec.ofInt 64 3).toNat = 2 ^ 2 - 1 := by decide
  have key : (BitVec.ofInt 64 n &&& BitVec.ofInt 64 3).toNat = (n % ((2 ^ 64 : Nat) : Int)).toNat % 2 ^ 2 := by
    rw [BitVec.toNat_and, BitVec.toNat_ofInt, h3, Nat.and_two_pow_sub_one_eq_mod]
  show IntKind.i64.wrap ((BitVec.ofInt 64 n &&& BitVec.ofInt 64 3).toNat : Nat) = n % 4
  rw [key, IntKind.wrap_i64]
  omega
theorem and3_cases (n : Int) : bits .and .i64 n 3 = 0 ∨ bits .and .i64 n 3 = 1 ∨ bits .and .i64 n 3 = 2 ∨ bits .and .i64 n 3 = 3 := by
  rw [and3]; omega
theorem cat_next {L : List Sx} {ss : List (List UInt8)} {j : Nat} {s : List UInt8} (h : j < L.length) (hs : ss.length = j) : bV (headT ++ cat (L.take j) ss) ++ bV (pr L[j]) ++ bV s = bV (headT ++ cat (L.take (j + 1)) (ss ++ [s])) := by
  rw [bV_append, bV_append, List.take_succ_eq_append_getElem h, cat_snoc _ _ _ _ (by simp; omega)]
  simp
theorem prT_wtL (l : List Sx) : (prT l).length ≤ 10 * wtL l := prT_wt l
theorem wtL_take (l : List Sx) (i : Nat) : wtL (l.take i) ≤ wtL l := by
  have := wtL_append (l.take i) (l.drop i)
  rw [List.take_append_drop] at this
  omega

set_option maxHeartbeats 4000000 in
theorem lawBlanks (L : List Sx) (A : Option Addr) (c : Nat) (n : Int) (w : World) (hn : -9223372036854775808 ≤ n ∧ n ≤ 9223372036854775807) (hL : L.length ≤ 9223372036854775807) (hc : RL w (fun k => k < w.heap.size) L A 0) (hE : EV w) :
    Calls Tryd.prog 6 #[.slice A L.length c, .int .i64 n] w fun e w' => e = .returned (.bool true) ∧ Below w.heap.size w w' := by
  have AR := Aside0.mk hc
  have AE := Aside0.mk hE
  have hb1 : (L.length : Int) ≤ 9223372036854775807 := by omega
  clear hc hE
  go_enter Tryd.func6, Tryd.ntmps6
  go_wp2_with fail
  refine (known_any w AE.out).mono ?_
  rintro e w1 ⟨rfl, hbk⟩
  have AM1 := Aside0.mk (Mod.step (Mod.refl (fun _ => False) w) hbk)
  clear hbk
  go_wp2_with fail
  go_loopw [5, 6] (fun v5 v wr => ∃ (i : Nat) (m : Int), i ≤ L.length ∧ v = .int .i64 (i : Int) ∧ v5 = .int .i64 m ∧ 0 ≤ m ∧ m ≤ 3000000000000000000 ∧ Aside0 (m ≤ 500 → ((wtL (L.take i) : Nat) : Int) ≤ m) ∧ Aside0 (cleanL 100 (L.take i) = true) ∧ Aside0 (Mod (fun _ => False) w wr)) (fun _ v _ => L.length - (intOf v).toNat)
  case atStart => exact ⟨0, 0, Nat.zero_le _, rfl, rfl, by decide, by decide, ⟨fun _ => by simp [wtL]⟩, ⟨by simp [cleanL]⟩, AM1⟩
  case round =>
    obtain ⟨i, m, hi, rfl, rfl, hm0, hm1, hm2, ACL, AM⟩ := hrel
    by_cases hgo : i < L.length ∧ m ≤ 500
    · obtain ⟨hlt, hmm⟩ := hgo
      have i0 : (0 : Int) ≤ (i : Int) := by omega
      have i1 : (i : Int) < (L.length : Int) := by omega
      obtain ⟨a1, B1, d1', rfl, hs1, ht1, -, z11, z12, z13⟩ := RL_kid (AM.out.RL AR.out) i hlt
      have AT := Aside0.mk ht1
      have AW := Aside0.mk (wtL_succ L i hlt)
      clear ht1
      go_wp2_with fail
      refine (light_any _ L[i] (Nat.le_refl _) [.string L[i].word, .bool L[i].list, .slice B1 L[i].kids.length d1'] 500 100 _ AT.out (by decide) (by decide) (by decide) (by decide)).mono ?_
      rintro e w2 ⟨⟨r, rfl, hr1, hr2, hr3⟩, hb⟩
      have HR3 := Aside0.mk hr3
      have hmb := Mod.of_below (S := fun _ => False) hb
      have y11 := hmb.cell z11
      have y12 := hmb.cell z12
      have y13 := hmb.cell z13
      have AT2 := Aside0.mk (hmb.RT AT.out)
      have AM2 := Aside0.mk (AM.out.step hb)
      have s3 : wrap64 (m + r) = m + r := IntWalk.wrap64_in _ (by omega)
      clear hmb hb z11 z12 z13 hr3
      go_wp2_with fail
      refine (clean_100 L[i] [.string L[i].word, .bool L[i].list, .slice B1 L[i].kids.length d1'] _ AT2.out).mono ?_
      rintro e w3 ⟨rfl, hb⟩
      cases hcl : cleanB 100 L[i] with
      | false =>
        clear hcl
        go_wp2_with fail
        go_returns
        exact ⟨rfl, (AM2.out.step hb).below⟩
      | true =>
        have HCL := Aside0.mk hcl
        clear hcl
        go_wp2_with fail
        go_roundw
        case rel => exact ⟨i + 1, m + r, by omega, by go_num, rfl, by omega, by omega, ⟨fun h => by have := HR3.out (by omega); have := hm2.out (by omega); have := AW.out; omega⟩, ⟨by rw [cleanL_succ _ _ _ hlt, ACL.out, HCL.out]; rfl⟩, ⟨AM2.out.step hb⟩⟩
        case measure => simp [intOf]; omega
    · by_cases hmm : m ≤ 500
      · have hall : i = L.length := by omega
        have i1 : (L.length : Int) ≤ (i : Int) := by omega
        have hwt := hm2.out hmm
        rw [hall, List.take_length] at hwt
        have hcl := ACL.out
        rw [hall, List.take_length] at hcl
        have AW := Aside0.mk (show wtL L ≤ 500 by omega)
        have AC := Aside0.mk hcl
        clear hall hwt hcl hgo
        by_cases h100 : 100 < L.length
        · have g1 : (100 : Int) < (L.length : Int) := by omega
          go_wp2_with fail
          go_returns
          exact ⟨rfl, AM.out.below⟩
        · have g1 : (L.length : Int) ≤ 100 := by omega
          go_wp2_with fail
          go_loopw [7, 8] (fun v7 v wr2 => ∃ (j : Nat) (ss : List (List UInt8)), j ≤ L.length ∧ ss.length = j ∧ Aside0 (∀ s ∈ ss, Sep s) ∧ v = .int .i64 (j : Int) ∧ v7 = .string (bV (headT ++ cat (L.take j) ss)) ∧ Aside0 (Mod (fun _ => False) w wr2)) (fun _ v _ => L.length - (intOf v).toNat)
          case atStart => exact ⟨0, [], Nat.zero_le _, rfl, ⟨fun s hs => by cases hs⟩, rfl, by simp [cat]; rfl, AM⟩
          case round =>
            obtain ⟨j, ss, hj, hssl, HS, rfl, rfl, AMJ⟩ := hrel
            by_cases hlt : j < L.length
            · have j0 : (0 : Int) ≤ (j : Int) := by omega
              have j1 : (j : Int) < (L.length : Int) := by omega
              obtain ⟨a1, B1, d1', rfl, hs1, ht1, -, z11, z12, z13⟩ := RL_kid (AMJ.out.RL AR.out) j hlt
              have AT := Aside0.mk ht1
              clear ht1
              go_wp2_with fail
              have hw1 := wtL_take L j
              have hw2 := wtL_take L (j + 1)
              rw [wtL_succ L j hlt] at hw2
              have hw3 := AW.out
              have hw4 := prT_wtL (L.take j)
              have hw5 := pr_wt L[j]
              have hw6 := cat_len (L.take j) ss HS.out
              rw [List.length_take] at hw6
              have hlA : (headT ++ cat (L.take j) ss).length ≤ 6000 := by simp [headT]; omega
              have hlK : (pr L[j]).length ≤ 5000 := by omega
              clear hw1 hw2 hw3 hw4 hw5 hw6
              refine (Print_bV L[j] [.string L[j].word, .bool L[j].list, .slice B1 L[j].kids.length d1'] _ AT.out (by omega)).mono ?_
              rintro e w4 ⟨rfl, hb⟩
              have AM4 := Aside0.mk (AMJ.out.step hb)
              clear hb z11 z12 z13
              have hsum : (bV (headT ++ cat (L.take j) ss)).size + (bV (pr L[j])).size ≤ 9223372036854775807 := by rw [bV_size, bV_size]; omega
              have hsz : (bV (headT ++ cat (L.take j) ss)).size + (bV (pr L[j])).size ≤ 11000 := by rw [bV_size, bV_size]; omega
              have hsum1 : (bV (headT ++ cat (L.take j) ss)).size + (bV (pr L[j])).size + 1 ≤ 9223372036854775807 := by omega
              have hsum4 : (bV (headT ++ cat (L.take j) ss)).size + (bV (pr L[j])).size + 4 ≤ 9223372036854775807 := by omega
              have hsum6 : (bV (headT ++ cat (L.take j) ss)).size + (bV (pr L[j])).size + 6 ≤ 9223372036854775807 := by omega
              clear hsz hlA hlK
              rcases and3_cases (wrap64 (n + (j : Int))) with hq | hq | hq | hq
              · go_wp2_with fail
                go_roundw
                case rel => exact ⟨j + 1, ss ++ [[32]], by omega, by simp [hssl], ⟨fun s hs => by
                  rcases List.mem_append.1 hs with h | h
                  · exact HS.out s h
                  · rw [List.mem_singleton.1 h]; exact .inl rfl⟩, by go_num, by rw [← cat_next hlt hssl]; rfl, AM4⟩
                case measure => simp [intOf]; omega
              · go_wp2_with fail
                go_roundw
                case rel => exact ⟨j + 1, ss ++ [[9, 13, 10, 32]], by omega, by simp [hssl], ⟨fun s hs => by
                  rcases List.mem_append.1 hs with h | h
                  · exact HS.out s h
                  · rw [List.mem_singleton.1 h]; exact .inr (.inl rfl)⟩, by go_num, by rw [← cat_next hlt hssl]; rfl, AM4⟩
                case measure => simp [intOf]; omega
              · go_wp2_with fail
                go_roundw
                case rel => exact ⟨j + 1, ss ++ [[10, 59, 124, 32, 40, 10]], by omega, by simp [hssl], ⟨fun s hs => by
                  rcases List.mem_append.1 hs with h | h
                  · exact HS.out s h
                  · rw [List.mem_singleton.1 h]; exact .inr (.inr (.inl rfl))⟩, by go_num, by rw [← cat_next hlt hssl]; rfl, AM4⟩
                case measure => simp [intOf]; omega
              · go_wp2_with fail
                go_roundw
                case rel => exact ⟨j + 1, ss ++ [[32, 59, 32, 41, 10, 10]], by omega, by simp [hssl], ⟨fun s hs => by
                  rcases List.mem_append.1 hs with h | h
                  · exact HS.out s h
                  · rw [List.mem_singleton.1 h]; exact .inr (.inr (.inr rfl))⟩, by go_num, by rw [← cat_next hlt hssl]; rfl, AM4⟩
                case measure => simp [intOf]; omega
            · have j1 : (L.length : Int) ≤ (j : Int) := by omega
              have hall : j = L.length := by omega
              have hw3 := AW.out
              have hw4 := prT_wtL L
              have hw6 := cat_len L ss HS.out
              have hlA : (headT ++ cat L ss ++ endT).length ≤ 6000 := by simp [headT, endT]; omega
              have hsl : L.length = ss.length := by omega
              have HPR := Aside0.mk (parse_blanks L ss hsl HS.out AC.out (by omega))
              rw [hall, List.take_length]
              have hsz : (bV (headT ++ cat L ss ++ endT)).size ≤ 9223372036854775807 := by rw [bV_size]; omega
              have hsum4 : (bV (headT ++ cat L ss)).size + 4 ≤ 9223372036854775807 := by
                rw [bV_size]; simp only [List.length_append] at hlA ⊢; omega
              clear hall hw3 hw4 hw6 hlA hsl j1 hlt
              have j1 : (L.length : Int) ≤ (L.length : Int) := by omega
              go_wp2_with fail
              rw [show (⟨#[59, 101, 110, 100]⟩ : ByteArray) = bV endT from rfl, bV_append]
              refine (parse_any (bV (headT ++ cat L ss ++ endT)) _ hsz).mono ?_
              rintro e w2 ⟨hp, hb⟩
              have hp' : ParseOut wr w2 e (parse (headT ++ cat L ss ++ endT)) := by simpa [bV] using hp
              rw [HPR.out] at hp'
              obtain ⟨A2, c2, rfl, hc21, hc22, hRL2⟩ := hp'
              have AR2 := Aside0.mk (RL_up hRL2 (Below.refl _ _))
              have AR1 := Aside0.mk ((AMJ.out.step hb).RL AR.out)
              have AM2 := Aside0.mk (AMJ.out.step hb)
              clear hp hb hRL2
              go_wp2_with fail
              refine (same_list L A A2 c c2 w2 (by omega) AR1.out AR2.out).mono ?_
              rintro e w3 ⟨rfl, hb⟩
              have AM3 := Aside0.mk (AM2.out.step hb)
              clear hb
              go_wp2_with fail
              go_returns
              exact ⟨rfl, AM3.out.below⟩
      · have hmm' : 500 < m := by omega
        clear hgo hmm
        by_cases hlt : i < L.length
        · have i1 : (i : Int) < (L.length : Int) := by omega
          go_wp2_with fail
          go_returns
          exact ⟨rfl, AM.out.below⟩
        · have i1 : (L.length : Int) ≤ (i : Int) := by omega
          go_wp2_with fail
          go_returns
          exact ⟨rfl, AM.out.below⟩
end Go.Proofs.YtdhfjaekhibaaaaDoor
