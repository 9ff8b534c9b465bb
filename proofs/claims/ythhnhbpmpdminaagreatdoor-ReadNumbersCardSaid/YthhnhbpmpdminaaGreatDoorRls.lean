/-
read.worker: list, of term, let and bits. Conditions: the reader in memory.
-/
import Derived.Test.YthhnhbpmpdminaaGreatDoorRnb
namespace Go.Proofs.YthhnhbpmpdminaaGreatDoor
set_option maxRecDepth 4096
set_option maxHeartbeats 8000000
set_option linter.unusedSimpArgs false
set_option linter.unusedVariables false
set_option linter.unnecessarySimpa false
open Go.RowKit Go.Proofs.YthhnhbpmpdminaaGreatDoorW.PrintWords Go.Maps PReadTwice
theorem RT_kids {w : World} {S : Nat → Prop} {x : Sx} {A : Option Addr} {c : Nat} (h : RT w S x [.string x.word, .bool x.list, .slice A x.kids.length c]) : RL w S x.kids A 0 ∧ x.kids.length ≤ c ∧ c ≤ 9223372036854775807 := by
  obtain ⟨A', c', heq, h1, h2, _, h4⟩ := RT_cells h
  simp only [List.cons.injEq, Value.slice.injEq, and_true, true_and] at heq
  obtain ⟨rfl, rfl⟩ := heq
  exact ⟨h4, h1, h2⟩
section
variable (z : Zr) (w : World) (E : List Ent) (vl : Value) (cs : List Value) (defs : Int) (r : Rd)
/-- What let is held to; what bits is. -/
def LetC (rec : Tm) (d : Nat) : Prop := ∀ (w : World) (r : Rd) (l : List Sx) (A : Option Addr) (c : Nat) (b : Bnd) (p : Option Addr) (lim : Nat), RI z w E vl cs defs r → z.B ≤ w.heap.size → RL w (NR z w) l A 0 → l.length ≤ c → c ≤ 9223372036854775807 → BL z w b p → BndOk b r.G → lim ≤ E.length → r.n ≤ 65536 →
  Calls Tryz.prog 151 #[.pointer (some ⟨z.wb, 0, none⟩), .slice A l.length c, plV p lim d] w fun e w' => RPost z w E vl cs defs (letF rec l b lim r) e w'
def BitsC : Prop := ∀ (w : World) (r : Rd) (l : List Sx) (A : Option Addr) (c : Nat), RI z w E vl cs defs r → z.B ≤ w.heap.size → RL w (NR z w) l A 0 → l.length ≤ c → c ≤ 9223372036854775807 → r.n ≤ 65536 →
  Calls Tryz.prog 152 #[.pointer (some ⟨z.wb, 0, none⟩), .slice A l.length c] w fun e w' => RPost z w E vl cs defs (bitsF l r) e w'
theorem list_any (rec : Tm) (d : Nat) (hd : d ≤ 900) (ht : TermC z E vl cs defs rec (d + 1)) (hr : TmOk E rec rec) (hmo : ∀ x b lim r, (rec x b lim r).1.2 = 0 → r.n + 1 ≤ (rec x b lim r).2.n) (hlet : LetC z E vl cs defs rec d) (hbits : BitsC z E vl cs defs) : ListC z E vl cs defs rec d := by
  intro w r l A c b p lim h hB hl hlc hcc hb hbo hlim hn
  obtain ⟨R, hR⟩ : ∃ R, listF E rec l b lim r = R := ⟨_, rfl⟩
  rw [hR]
  unfold listF at hR
  unfold plV
  have hb0 := (Below.refl _ w).alloc (Nat.le_refl _) (.cells #[.pointer p, .int .i64 (lim : Int), .int .i64 (d : Int)] 139)
  have hp0 := Cells.new w 139 [.pointer p, .int .i64 (lim : Int), .int .i64 (d : Int)]
  go_enter Tryz.func102, Tryz.ntmps102
  go_upto_region 1 with (fail)
  obtain ⟨w0, hw0⟩ : ∃ w0, w.alloc (.cells #[.pointer p, .int .i64 (lim : Int), .int .i64 (d : Int)] 139) = w0 := ⟨_, rfl⟩
  have hp0 : Cells w0 w.heap.size 139 [.pointer p, .int .i64 (lim : Int), .int .i64 (d : Int)] := by rw [← hw0]; exact hp0
  rw [hw0] at hb0 ⊢
  clear hw0
  have HH := Aside0.mk h
  have HT := Aside0.mk ht
  have HRR := Aside0.mk hr
  have HMO := Aside0.mk hmo
  have HLET := Aside0.mk hlet
  have HBITS := Aside0.mk hbits
  have HBL := Aside0.mk hb
  have HBO := Aside0.mk hbo
  have HRL := Aside0.mk hl
  clear h ht hr hmo hb hl hbo hlet hbits
  cases l with
  | nil =>
    have HR : Aside0 (failF 54 r = R) := ⟨hR⟩
    have HB0 := Aside0.mk hb0
    clear hR hb0 hp0
    rw [List.length_nil]
    go_wp2_with fail
    go_returns
    rw [← HR.out]
    exact RPost.new HH.out HB0.out hB 0 54
  | cons x t =>
    dsimp only at hR
    have HR := Aside0.mk hR
    obtain ⟨m, hm⟩ : ∃ m, t.length = m := ⟨_, rfl⟩
    rw [List.length_cons, hm] at hlc ⊢
    have HM := Aside0.mk hm
    have hB0 : z.B ≤ w0.heap.size := Nat.le_trans hB hb0.size
    obtain ⟨ad, a1, c1, rfl, had, hrtx, x0, x1, x2⟩ := RL_kid3 (NR.trees (KR.of_below hb0) HRL.out) 0 x rfl
    rw [Nat.zero_mul] at x0 x1 x2
    have hx0 : ad.add 0 = ad := by unfold Addr.add; simp
    rw [hx0] at x0 x1 x2
    have e3 : ad.add 3 = ⟨ad.block, ad.off + 3, none⟩ := by unfold Addr.add; simp
    obtain ⟨ad1, e1, hrl1⟩ := RL_tl (NR.trees (KR.of_below hb0) HRL.out)
    cases e1
    rw [e3] at hrl1
    have hwz : x.word.size ≤ maxLen := by obtain ⟨_, _, _, _, _, q, _⟩ := RT_cells hrtx; exact q
    have hbx := hb0.alloc hb0.size (.cells #[.string x.word, .bool x.list, .slice a1 x.kids.length c1] 49)
    have hpx := hp0.alloc (.cells #[.string x.word, .bool x.list, .slice a1 x.kids.length c1] 49)
    have hcx := Cells.new w0 49 [.string x.word, .bool x.list, .slice a1 x.kids.length c1]
    have kx : KR z w0 (w0.alloc (.cells #[.string x.word, .bool x.list, .slice a1 x.kids.length c1] 49)) := KR.of_below ((Below.refl _ w0).alloc (Nat.le_refl _) _)
    have hrtx := NR.tree kx hrtx
    have hrl1 := NR.trees kx hrl1
    have hcap : ¬ c = 1 ∨ m = 0 := by omega
    clear hR hm had hp0 hb0 hx0 e3
    go_upto_region 4 with (fail)
    obtain ⟨w1, hw1⟩ : ∃ w1, w0.alloc (.cells #[.string x.word, .bool x.list, .slice a1 x.kids.length c1] 49) = w1 := ⟨_, rfl⟩
    have hcx : Cells w1 w0.heap.size 49 [.string x.word, .bool x.list, .slice a1 x.kids.length c1] := by rw [← hw1]; exact hcx
    rw [hw1] at hbx hpx hrtx hrl1 ⊢
    clear hw1 kx
    have HB1 := Aside0.mk hbx
    have HP1 := Aside0.mk hpx
    have HC1 := Aside0.mk hcx
    have HKI := Aside0.mk (RT_kids hrtx)
    have HRL1 := Aside0.mk hrl1
    clear hbx hpx hcx hrtx hrl1 x0 x1 x2
    have y0 := HC1.out.cell 0 _ rfl
    have y1 := HC1.out.cell 1 _ rfl
    have y2 := HC1.out.cell 2 _ rfl
    by_cases hc1 : c = 1
    · obtain rfl : m = 0 := by omega
      subst hc1
      have ht0 : t = [] := List.eq_nil_of_length_eq_zero HM.out
      have HRL1 : Aside0 (RL w1 (NR z w1) t (some ad) 0) := ⟨by rw [ht0]; exact RL_nil _ _ _ _⟩
      have HLN : Aside0 (t.length ≤ 0) := ⟨by rw [ht0]; exact Nat.le_refl _⟩
      clear hcap ht0
      cases hxl : x.list with
      | true =>
        rw [hxl] at y1
        have hR2 : numberedF rec x.kids t b lim r = R := by have := HR.out; rw [if_pos hxl] at this; exact this
        have hB5 := HB1.out.drew
        have HB5 : Aside0 (Below w.heap.size w w1.drew) := ⟨hB5⟩
        have q0 := HP1.out.cell 0 _ rfl
        have q1 := HP1.out.cell 1 _ rfl
        have q2 := HP1.out.cell 2 _ rfl
        have hnb := numbered_any z w1.drew E vl cs defs r rec d hd HT.out HRR.out HMO.out x.kids a1 c1 (NR.trees (KR.of_below ((Below.refl _ w1).drew)) HKI.out.1) HKI.out.2.1 HKI.out.2.2 t (some ad) 0 b p lim (HH.out.below hB5) (Nat.le_trans hB hB5.size) (NR.trees (KR.of_below ((Below.refl _ w1).drew)) HRL1.out) HLN.out (by omega) (BL.next (KR.of_below hB5) HBL.out) HBO.out hlim hn
        rw [hR2, HM.out] at hnb
        unfold plV at hnb
        have HNB := Aside0.mk hnb
        clear hR2 hnb hB5 hxl
        go_upto_region 5 with (fail)
        refine wp_plan [(0, 0), (0, 1), (0, 3), (0, 4), (1, 2), (1, 5), (3, 6), (0, 7), (0, 8), (0, 9), (0, 10)] (fun w' => w' = _) (by kernel_rfl) (by kernel_rfl) (fun _ _ d _ _ h => by cases d <;> exact h) rfl ?_
        simp only [planOps, List.filterMap_cons, List.filterMap_nil, List.getElem?_toArray, List.getElem?_cons_zero, List.getElem?_cons_succ, Option.map_some]
        repeat (first
          | (refine' plan_pu _ (by rfl) (fun w' => ?_) ?_; rotate_left 1; (focus (go_simp; try (with_reducible rfl))); (try simp only [wrapi_0, wrapi_1, wrapi_2, wrapi_3, wrapi_4, wrapi_0]); simp only [Act.put, List.setIfInBounds_toArray, List.set_cons_zero, List.set_cons_succ])
          | (refine' plan_off (by rfl) ?_; (try simp only [wrapi_0, wrapi_1, wrapi_2, wrapi_3, wrapi_4, wrapi_0]); simp only [Act.put, List.setIfInBounds_toArray, List.set_cons_zero, List.set_cons_succ])
          | (refine' plan_offL (by rfl) ?_; (try simp only [wrapi_0, wrapi_1, wrapi_2, wrapi_3, wrapi_4, wrapi_0]); simp only [Act.put, List.setIfInBounds_toArray, List.set_cons_zero, List.set_cons_succ])
          | (refine' plan_ld _ (by rfl) (fun w' hSw => ?_) ?_; rotate_left 1; (focus (subst hSw; go_simp; try (with_reducible rfl))); (try simp only [wrapi_0, wrapi_1, wrapi_2, wrapi_3, wrapi_4, wrapi_0]); simp only [Act.put, List.setIfInBounds_toArray, List.set_cons_zero, List.set_cons_succ]))
        refine plan_fi (fun K hK => ?_)
        go_simp
        refine HNB.out.mono ?_
        rintro e w9 ⟨rfl, a1', a2', a3'⟩
        have A1 := Aside0.mk a1'
        have A2 := Aside0.mk ((KR.of_below HB5.out).trans a2')
        have A3 := Aside0.mk ((HB5.out.mono hB).trans a3')
        clear a1' a2' a3'
        refine hK.out _ _ ?_
        clear hK K
        repeat (first
          | (refine' plan_pu _ (by rfl) (fun w' => ?_) ?_; rotate_left 1; (focus (go_simp; try (with_reducible rfl))); (try simp only [wrapi_0, wrapi_1, wrapi_2, wrapi_3, wrapi_4]); simp only [Act.put, List.setIfInBounds_toArray, List.set_cons_zero, List.set_cons_succ])
          | (refine' plan_off (by rfl) ?_; (try simp only [wrapi_0, wrapi_1, wrapi_2, wrapi_3, wrapi_4]); simp only [Act.put, List.setIfInBounds_toArray, List.set_cons_zero, List.set_cons_succ])
          | (refine' plan_offL (by rfl) ?_; (try simp only [wrapi_0, wrapi_1, wrapi_2, wrapi_3, wrapi_4]); simp only [Act.put, List.setIfInBounds_toArray, List.set_cons_zero, List.set_cons_succ])
          | (refine' plan_offE (by rfl) (by first | assumption | exact (by assumption)) ?_; (try simp only [wrapi_0, wrapi_1, wrapi_2, wrapi_3, wrapi_4]); simp only [Act.put, List.setIfInBounds_toArray, List.set_cons_zero, List.set_cons_succ])
          | (refine' plan_ld _ (by rfl) (fun w' hSw => ?_) ?_; rotate_left 1; (focus ((try dsimp only at hSw); skip; go_simp; try (with_reducible rfl))); (try simp only [wrapi_0, wrapi_1, wrapi_2, wrapi_3, wrapi_4]); simp only [Act.put, List.setIfInBounds_toArray, List.set_cons_zero, List.set_cons_succ]))
        refine plan_nil ?_
        go_wp2_with fail
        go_returns
        exact ⟨rfl, A1.out, A2.out, A3.out⟩
      | false =>
        rw [hxl] at y1
        have hR := HR.out
        rw [if_neg (by simp [hxl])] at hR
        clear hxl
        by_cases h1 : x.word.data.toList = [108, 101, 116]
        · have e1 : (x.word.toList == [108, 101, 116]) = true := by rw [ByteArray.toList_eq, h1]; rfl
          rw [if_pos h1] at hR
          have hB5 := HB1.out.drew
          have HB5 : Aside0 (Below w.heap.size w w1.drew) := ⟨hB5⟩
          have q0 := HP1.out.cell 0 _ rfl
          have q1 := HP1.out.cell 1 _ rfl
          have q2 := HP1.out.cell 2 _ rfl
          have hnb := HLET.out w1.drew r t (some ad) 0 b p lim (HH.out.below hB5) (Nat.le_trans hB hB5.size) (NR.trees (KR.of_below ((Below.refl _ w1).drew)) HRL1.out) HLN.out (by omega) (BL.next (KR.of_below hB5) HBL.out) HBO.out hlim hn
          rw [hR, HM.out] at hnb
          unfold plV at hnb
          have HNB := Aside0.mk hnb
          clear hR hnb hB5 h1
          go_upto_region 7 with (fail)
          refine wp_plan [(0, 0), (0, 1), (0, 2), (1, 3), (3, 4), (0, 5), (0, 6), (0, 7), (0, 8)] (fun w' => w' = _) (by kernel_rfl) (by kernel_rfl) (fun _ _ d _ _ h => by cases d <;> exact h) rfl ?_
          simp only [planOps, List.filterMap_cons, List.filterMap_nil, List.getElem?_toArray, List.getElem?_cons_zero, List.getElem?_cons_succ, Option.map_some]
          repeat (first
            | (refine' plan_pu _ (by rfl) (fun w' => ?_) ?_; rotate_left 1; (focus (go_simp; try (with_reducible rfl))); (try simp only [wrapi_0, wrapi_1, wrapi_2, wrapi_3, wrapi_4, wrapi_0]); simp only [Act.put, List.setIfInBounds_toArray, List.set_cons_zero, List.set_cons_succ])
            | (refine' plan_off (by rfl) ?_; (try simp only [wrapi_0, wrapi_1, wrapi_2, wrapi_3, wrapi_4, wrapi_0]); simp only [Act.put, List.setIfInBounds_toArray, List.set_cons_zero, List.set_cons_succ])
            | (refine' plan_offL (by rfl) ?_; (try simp only [wrapi_0, wrapi_1, wrapi_2, wrapi_3, wrapi_4, wrapi_0]); simp only [Act.put, List.setIfInBounds_toArray, List.set_cons_zero, List.set_cons_succ])
            | (refine' plan_ld _ (by rfl) (fun w' hSw => ?_) ?_; rotate_left 1; (focus (subst hSw; go_simp; try (with_reducible rfl))); (try simp only [wrapi_0, wrapi_1, wrapi_2, wrapi_3, wrapi_4, wrapi_0]); simp only [Act.put, List.setIfInBounds_toArray, List.set_cons_zero, List.set_cons_succ]))
          refine plan_fi (fun K hK => ?_)
          go_simp
          refine HNB.out.mono ?_
          rintro e w9 ⟨rfl, a1', a2', a3'⟩
          have A1 := Aside0.mk a1'
          have A2 := Aside0.mk ((KR.of_below HB5.out).trans a2')
          have A3 := Aside0.mk ((HB5.out.mono hB).trans a3')
          clear a1' a2' a3'
          refine hK.out _ _ ?_
          clear hK K
          repeat (first
            | (refine' plan_pu _ (by rfl) (fun w' => ?_) ?_; rotate_left 1; (focus (go_simp; try (with_reducible rfl))); (try simp only [wrapi_0, wrapi_1, wrapi_2, wrapi_3, wrapi_4]); simp only [Act.put, List.setIfInBounds_toArray, List.set_cons_zero, List.set_cons_succ])
            | (refine' plan_off (by rfl) ?_; (try simp only [wrapi_0, wrapi_1, wrapi_2, wrapi_3, wrapi_4]); simp only [Act.put, List.setIfInBounds_toArray, List.set_cons_zero, List.set_cons_succ])
            | (refine' plan_offL (by rfl) ?_; (try simp only [wrapi_0, wrapi_1, wrapi_2, wrapi_3, wrapi_4]); simp only [Act.put, List.setIfInBounds_toArray, List.set_cons_zero, List.set_cons_succ])
            | (refine' plan_offE (by rfl) (by first | assumption | exact (by assumption)) ?_; (try simp only [wrapi_0, wrapi_1, wrapi_2, wrapi_3, wrapi_4]); simp only [Act.put, List.setIfInBounds_toArray, List.set_cons_zero, List.set_cons_succ])
            | (refine' plan_ld _ (by rfl) (fun w' hSw => ?_) ?_; rotate_left 1; (focus ((try dsimp only at hSw); skip; go_simp; try (with_reducible rfl))); (try simp only [wrapi_0, wrapi_1, wrapi_2, wrapi_3, wrapi_4]); simp only [Act.put, List.setIfInBounds_toArray, List.set_cons_zero, List.set_cons_succ]))
          refine plan_nil ?_
          go_wp2_with fail
          go_returns
          exact ⟨rfl, A1.out, A2.out, A3.out⟩
        · have e1 : (x.word.toList == [108, 101, 116]) = false := by rw [ByteArray.toList_eq]; simpa using h1
          rw [if_neg h1] at hR
          by_cases h2 : x.word.data.toList = [95]
          · have e2 : (x.word.toList == [95]) = true := by rw [ByteArray.toList_eq, h2]; rfl
            rw [if_pos h2] at hR
            have hnb := HBITS.out w1 r t (some ad) 0 (HH.out.below HB1.out) (Nat.le_trans hB HB1.out.size) HRL1.out HLN.out (by omega) hn
            rw [hR, HM.out] at hnb
            have HNB := Aside0.mk hnb
            clear hR hnb h1 h2
            go_wp2_with fail
            refine HNB.out.mono ?_
            intro e w9 hp
            have hq := RPost.pre HB1.out hB hp
            obtain ⟨rfl, hq2⟩ := hq
            have HQ := Aside0.mk hq2
            clear hq2 hp
            go_wp2_with fail
            go_returns
            exact ⟨rfl, HQ.out⟩
          · have e2 : (x.word.toList == [95]) = false := by rw [ByteArray.toList_eq]; simpa using h2
            rw [if_neg h2] at hR
            clear h1 h2
            obtain ⟨nm, hnm⟩ : ∃ v, nameB x.word.data.toList = v := ⟨_, rfl⟩
            have hNa := fun W => readName_any x.word W (by unfold maxLen at hwz; omega)
            rw [hnm] at hR hNa
            have HNA := Aside0.mk hNa
            clear hNa hnm
            go_wp2_with fail
            refine (HNA.out _).mono ?_
            rintro e w2 ⟨rfl, hB2⟩
            have HB2 := Aside0.mk (HB1.out.trans (hB2.mono HB1.out.size))
            have HP2 := Aside0.mk (HP1.out.below hB2)
            have HC2 := Aside0.mk (HC1.out.below hB2)
            have HRL2 := Aside0.mk (NR.trees (KR.of_below hB2) HRL1.out)
            clear hB2 y0 y1 y2
            have y0 := HC2.out.cell 0 _ rfl
            cases nm with
            | true =>
              rw [if_pos rfl] at hR
              have hB5 := HB2.out.drew
              have HB5 : Aside0 (Below w.heap.size w w2.drew) := ⟨hB5⟩
              have q0 := HP2.out.cell 0 _ rfl
              have q1 := HP2.out.cell 1 _ rfl
              have q2 := HP2.out.cell 2 _ rfl
              have hnb := use_any z w2.drew E vl cs defs r rec d hd HT.out HRR.out HMO.out x.word hwz t (some ad) 0 b p lim (HH.out.below hB5) (Nat.le_trans hB hB5.size) (NR.trees (KR.of_below ((Below.refl _ w2).drew)) HRL2.out) HLN.out (by omega) (BL.next (KR.of_below hB5) HBL.out) HBO.out hlim hn
              rw [hR, HM.out] at hnb
              unfold plV at hnb
              have HNB := Aside0.mk hnb
              clear hR hnb hB5
              go_upto_region 11 with (fail)
              refine wp_plan [(0, 0), (0, 1), (0, 3), (0, 4), (1, 2), (1, 5), (3, 6), (0, 7), (0, 8), (0, 9), (0, 10)] (fun w' => w' = _) (by kernel_rfl) (by kernel_rfl) (fun _ _ d _ _ h => by cases d <;> exact h) rfl ?_
              simp only [planOps, List.filterMap_cons, List.filterMap_nil, List.getElem?_toArray, List.getElem?_cons_zero, List.getElem?_cons_succ, Option.map_some]
              repeat (first
                | (refine' plan_pu _ (by rfl) (fun w' => ?_) ?_; rotate_left 1; (focus (go_simp; try (with_reducible rfl))); (try simp only [wrapi_0, wrapi_1, wrapi_2, wrapi_3, wrapi_4, wrapi_0]); simp only [Act.put, List.setIfInBounds_toArray, List.set_cons_zero, List.set_cons_succ])
                | (refine' plan_off (by rfl) ?_; (try simp only [wrapi_0, wrapi_1, wrapi_2, wrapi_3, wrapi_4, wrapi_0]); simp only [Act.put, List.setIfInBounds_toArray, List.set_cons_zero, List.set_cons_succ])
                | (refine' plan_offL (by rfl) ?_; (try simp only [wrapi_0, wrapi_1, wrapi_2, wrapi_3, wrapi_4, wrapi_0]); simp only [Act.put, List.setIfInBounds_toArray, List.set_cons_zero, List.set_cons_succ])
                | (refine' plan_ld _ (by rfl) (fun w' hSw => ?_) ?_; rotate_left 1; (focus (subst hSw; go_simp; try (with_reducible rfl))); (try simp only [wrapi_0, wrapi_1, wrapi_2, wrapi_3, wrapi_4, wrapi_0]); simp only [Act.put, List.setIfInBounds_toArray, List.set_cons_zero, List.set_cons_succ]))
              refine plan_fi (fun K hK => ?_)
              go_simp
              refine HNB.out.mono ?_
              rintro e w9 ⟨rfl, a1', a2', a3'⟩
              have A1 := Aside0.mk a1'
              have A2 := Aside0.mk ((KR.of_below HB5.out).trans a2')
              have A3 := Aside0.mk ((HB5.out.mono hB).trans a3')
              clear a1' a2' a3'
              refine hK.out _ _ ?_
              clear hK K
              repeat (first
                | (refine' plan_pu _ (by rfl) (fun w' => ?_) ?_; rotate_left 1; (focus (go_simp; try (with_reducible rfl))); (try simp only [wrapi_0, wrapi_1, wrapi_2, wrapi_3, wrapi_4]); simp only [Act.put, List.setIfInBounds_toArray, List.set_cons_zero, List.set_cons_succ])
                | (refine' plan_off (by rfl) ?_; (try simp only [wrapi_0, wrapi_1, wrapi_2, wrapi_3, wrapi_4]); simp only [Act.put, List.setIfInBounds_toArray, List.set_cons_zero, List.set_cons_succ])
                | (refine' plan_offL (by rfl) ?_; (try simp only [wrapi_0, wrapi_1, wrapi_2, wrapi_3, wrapi_4]); simp only [Act.put, List.setIfInBounds_toArray, List.set_cons_zero, List.set_cons_succ])
                | (refine' plan_offE (by rfl) (by first | assumption | exact (by assumption)) ?_; (try simp only [wrapi_0, wrapi_1, wrapi_2, wrapi_3, wrapi_4]); simp only [Act.put, List.setIfInBounds_toArray, List.set_cons_zero, List.set_cons_succ])
                | (refine' plan_ld _ (by rfl) (fun w' hSw => ?_) ?_; rotate_left 1; (focus ((try dsimp only at hSw); skip; go_simp; try (with_reducible rfl))); (try simp only [wrapi_0, wrapi_1, wrapi_2, wrapi_3, wrapi_4]); simp only [Act.put, List.setIfInBounds_toArray, List.set_cons_zero, List.set_cons_succ]))
              refine plan_nil ?_
              go_wp2_with fail
              go_returns
              exact ⟨rfl, A1.out, A2.out, A3.out⟩
            | false =>
              rw [if_neg (by simp)] at hR
              obtain ⟨op, hop⟩ : ∃ v, opV x.word.data.toList = v := ⟨_, rfl⟩
              have hok : i64ok op := by rw [← hop]; exact opV_ok _
              have hOp := fun W => Op_any x.word (by unfold maxLen at hwz; omega) W
              rw [hop] at hR hOp
              have HOP := Aside0.mk hOp
              have HOK := Aside0.mk hok
              clear hop hOp hok
              go_wp2_with fail
              refine (HOP.out _).mono ?_
              rintro e w3 ⟨rfl, hB3⟩
              have HB3 := Aside0.mk (HB2.out.trans (hB3.mono HB2.out.size))
              have HP3 := Aside0.mk (HP2.out.below hB3)
              have HRL3 := Aside0.mk (NR.trees (KR.of_below hB3) HRL2.out)
              clear hB3 y0
              by_cases h0 : op = 0
              · rw [if_pos h0] at hR
                have HR2 := Aside0.mk hR
                clear hR
                subst h0
                go_wp2_with fail
                go_returns
                rw [← HR2.out]
                exact RPost.new HH.out HB3.out hB 0 50
              · rw [if_neg h0] at hR
                have h0b : (op == 0) = false := by simpa using h0
                clear h0
                obtain ⟨nb, hnb⟩ : ∃ v, numbersV op = v := ⟨_, rfl⟩
                have hNu := fun W => Numbers_any op W
                rw [hnb] at hR hNu
                have HNU := Aside0.mk hNu
                clear hnb hNu
                go_wp2_with fail
                refine (HNU.out _).mono ?_
                rintro e w4 ⟨rfl, hB4⟩
                have HB4 := Aside0.mk (HB3.out.trans (hB4.mono HB3.out.size))
                have HP4 := Aside0.mk (HP3.out.below hB4)
                have HRL4 := Aside0.mk (NR.trees (KR.of_below hB4) HRL3.out)
                clear hB4
                by_cases hn0 : nb = 0
                · rw [if_neg (by simpa using hn0)] at hR
                  subst hn0
                  have hB5 := HB4.out.drew
                  have HB5 : Aside0 (Below w.heap.size w w4.drew) := ⟨hB5⟩
                  have q0 := HP4.out.cell 0 _ rfl
                  have q1 := HP4.out.cell 1 _ rfl
                  have q2 := HP4.out.cell 2 _ rfl
                  have hnb := wop_any z w4.drew E vl cs defs r rec d hd HT.out HRR.out HMO.out op 0 0 HOK.out (by unfold i64ok; omega) (by unfold i64ok; omega) t (some ad) 0 b p lim (HH.out.below hB5) (Nat.le_trans hB hB5.size) (NR.trees (KR.of_below ((Below.refl _ w4).drew)) HRL4.out) HLN.out (by omega) (BL.next (KR.of_below hB5) HBL.out) HBO.out hlim hn
                  rw [hR, HM.out] at hnb
                  unfold plV opN at hnb
                  have HNB := Aside0.mk hnb
                  clear hR hnb hB5
                  go_upto_region 17 with (fail)
                  refine wp_plan [(0, 0), (0, 1), (0, 2), (0, 3), (0, 4), (1, 5), (3, 6), (0, 7), (0, 8), (0, 9), (0, 10)] (fun w' => w' = _) (by kernel_rfl) (by kernel_rfl) (fun _ _ d _ _ h => by cases d <;> exact h) rfl ?_
                  simp only [planOps, List.filterMap_cons, List.filterMap_nil, List.getElem?_toArray, List.getElem?_cons_zero, List.getElem?_cons_succ, Option.map_some]
                  repeat (first
                    | (refine' plan_pu _ (by rfl) (fun w' => ?_) ?_; rotate_left 1; (focus (go_simp; try (with_reducible rfl))); (try simp only [wrapi_0, wrapi_1, wrapi_2, wrapi_3, wrapi_4, wrapi_0]); simp only [Act.put, List.setIfInBounds_toArray, List.set_cons_zero, List.set_cons_succ])
                    | (refine' plan_off (by rfl) ?_; (try simp only [wrapi_0, wrapi_1, wrapi_2, wrapi_3, wrapi_4, wrapi_0]); simp only [Act.put, List.setIfInBounds_toArray, List.set_cons_zero, List.set_cons_succ])
                    | (refine' plan_offL (by rfl) ?_; (try simp only [wrapi_0, wrapi_1, wrapi_2, wrapi_3, wrapi_4, wrapi_0]); simp only [Act.put, List.setIfInBounds_toArray, List.set_cons_zero, List.set_cons_succ])
                    | (refine' plan_ld _ (by rfl) (fun w' hSw => ?_) ?_; rotate_left 1; (focus (subst hSw; go_simp; try (with_reducible rfl))); (try simp only [wrapi_0, wrapi_1, wrapi_2, wrapi_3, wrapi_4, wrapi_0]); simp only [Act.put, List.setIfInBounds_toArray, List.set_cons_zero, List.set_cons_succ]))
                  refine plan_fi (fun K hK => ?_)
                  go_simp
                  refine HNB.out.mono ?_
                  rintro e w9 ⟨rfl, a1', a2', a3'⟩
                  have A1 := Aside0.mk a1'
                  have A2 := Aside0.mk ((KR.of_below HB5.out).trans a2')
                  have A3 := Aside0.mk ((HB5.out.mono hB).trans a3')
                  clear a1' a2' a3'
                  refine hK.out _ _ ?_
                  clear hK K
                  repeat (first
                    | (refine' plan_pu _ (by rfl) (fun w' => ?_) ?_; rotate_left 1; (focus (go_simp; try (with_reducible rfl))); (try simp only [wrapi_0, wrapi_1, wrapi_2, wrapi_3, wrapi_4]); simp only [Act.put, List.setIfInBounds_toArray, List.set_cons_zero, List.set_cons_succ])
                    | (refine' plan_off (by rfl) ?_; (try simp only [wrapi_0, wrapi_1, wrapi_2, wrapi_3, wrapi_4]); simp only [Act.put, List.setIfInBounds_toArray, List.set_cons_zero, List.set_cons_succ])
                    | (refine' plan_offL (by rfl) ?_; (try simp only [wrapi_0, wrapi_1, wrapi_2, wrapi_3, wrapi_4]); simp only [Act.put, List.setIfInBounds_toArray, List.set_cons_zero, List.set_cons_succ])
                    | (refine' plan_offE (by rfl) (by first | assumption | exact (by assumption)) ?_; (try simp only [wrapi_0, wrapi_1, wrapi_2, wrapi_3, wrapi_4]); simp only [Act.put, List.setIfInBounds_toArray, List.set_cons_zero, List.set_cons_succ])
                    | (refine' plan_ld _ (by rfl) (fun w' hSw => ?_) ?_; rotate_left 1; (focus ((try dsimp only at hSw); skip; go_simp; try (with_reducible rfl))); (try simp only [wrapi_0, wrapi_1, wrapi_2, wrapi_3, wrapi_4]); simp only [Act.put, List.setIfInBounds_toArray, List.set_cons_zero, List.set_cons_succ]))
                  refine plan_nil ?_
                  go_wp2_with fail
                  go_returns
                  exact ⟨rfl, A1.out, A2.out, A3.out⟩
                · rw [if_pos (by simpa using hn0)] at hR
                  have HR2 := Aside0.mk hR
                  have hn1 : (0 : Int) < (nb : Int) := by omega
                  clear hR hn0
                  go_wp2_with fail
                  go_returns
                  rw [← HR2.out]
                  exact RPost.new HH.out HB4.out hB 0 54
    · have HCC : Aside0 (m ≤ c - 1) := ⟨by omega⟩
      have hm1 : ((m : Int) + 1 < 1) = False := by simp; omega
      have hm2 : (1 : Int) ≤ (m : Int) + 1 := by omega
      clear hcap
      cases hxl : x.list with
      | true =>
        rw [hxl] at y1
        have hR2 : numberedF rec x.kids t b lim r = R := by have := HR.out; rw [if_pos hxl] at this; exact this
        have hB5 := HB1.out.drew
        have HB5 : Aside0 (Below w.heap.size w w1.drew) := ⟨hB5⟩
        have q0 := HP1.out.cell 0 _ rfl
        have q1 := HP1.out.cell 1 _ rfl
        have q2 := HP1.out.cell 2 _ rfl
        have hnb := numbered_any z w1.drew E vl cs defs r rec d hd HT.out HRR.out HMO.out x.kids a1 c1 (NR.trees (KR.of_below ((Below.refl _ w1).drew)) HKI.out.1) HKI.out.2.1 HKI.out.2.2 t (some ⟨ad.block, ad.off + 3, none⟩) (c - 1) b p lim (HH.out.below hB5) (Nat.le_trans hB hB5.size) (NR.trees (KR.of_below ((Below.refl _ w1).drew)) HRL1.out) (by rw [HM.out]; exact HCC.out) (by omega) (BL.next (KR.of_below hB5) HBL.out) HBO.out hlim hn
        rw [hR2, HM.out] at hnb
        unfold plV at hnb
        have HNB := Aside0.mk hnb
        clear hR2 hnb hB5 hxl
        go_upto_region 5 with (fail)
        refine wp_plan [(0, 0), (0, 1), (0, 3), (0, 4), (1, 2), (1, 5), (3, 6), (0, 7), (0, 8), (0, 9), (0, 10)] (fun w' => w' = _) (by kernel_rfl) (by kernel_rfl) (fun _ _ d _ _ h => by cases d <;> exact h) rfl ?_
        simp only [planOps, List.filterMap_cons, List.filterMap_nil, List.getElem?_toArray, List.getElem?_cons_zero, List.getElem?_cons_succ, Option.map_some]
        repeat (first
          | (refine' plan_pu _ (by rfl) (fun w' => ?_) ?_; rotate_left 1; (focus (go_simp; try (with_reducible rfl))); (try simp only [wrapi_0, wrapi_1, wrapi_2, wrapi_3, wrapi_4, wrapi_0]); simp only [Act.put, List.setIfInBounds_toArray, List.set_cons_zero, List.set_cons_succ])
          | (refine' plan_off (by rfl) ?_; (try simp only [wrapi_0, wrapi_1, wrapi_2, wrapi_3, wrapi_4, wrapi_0]); simp only [Act.put, List.setIfInBounds_toArray, List.set_cons_zero, List.set_cons_succ])
          | (refine' plan_offL (by rfl) ?_; (try simp only [wrapi_0, wrapi_1, wrapi_2, wrapi_3, wrapi_4, wrapi_0]); simp only [Act.put, List.setIfInBounds_toArray, List.set_cons_zero, List.set_cons_succ])
          | (refine' plan_ld _ (by rfl) (fun w' hSw => ?_) ?_; rotate_left 1; (focus (subst hSw; go_simp; try (with_reducible rfl))); (try simp only [wrapi_0, wrapi_1, wrapi_2, wrapi_3, wrapi_4, wrapi_0]); simp only [Act.put, List.setIfInBounds_toArray, List.set_cons_zero, List.set_cons_succ]))
        refine plan_fi (fun K hK => ?_)
        go_simp
        refine HNB.out.mono ?_
        rintro e w9 ⟨rfl, a1', a2', a3'⟩
        have A1 := Aside0.mk a1'
        have A2 := Aside0.mk ((KR.of_below HB5.out).trans a2')
        have A3 := Aside0.mk ((HB5.out.mono hB).trans a3')
        clear a1' a2' a3'
        refine hK.out _ _ ?_
        clear hK K
        repeat (first
          | (refine' plan_pu _ (by rfl) (fun w' => ?_) ?_; rotate_left 1; (focus (go_simp; try (with_reducible rfl))); (try simp only [wrapi_0, wrapi_1, wrapi_2, wrapi_3, wrapi_4]); simp only [Act.put, List.setIfInBounds_toArray, List.set_cons_zero, List.set_cons_succ])
          | (refine' plan_off (by rfl) ?_; (try simp only [wrapi_0, wrapi_1, wrapi_2, wrapi_3, wrapi_4]); simp only [Act.put, List.setIfInBounds_toArray, List.set_cons_zero, List.set_cons_succ])
          | (refine' plan_offL (by rfl) ?_; (try simp only [wrapi_0, wrapi_1, wrapi_2, wrapi_3, wrapi_4]); simp only [Act.put, List.setIfInBounds_toArray, List.set_cons_zero, List.set_cons_succ])
          | (refine' plan_offE (by rfl) (by first | assumption | exact (by assumption)) ?_; (try simp only [wrapi_0, wrapi_1, wrapi_2, wrapi_3, wrapi_4]); simp only [Act.put, List.setIfInBounds_toArray, List.set_cons_zero, List.set_cons_succ])
          | (refine' plan_ld _ (by rfl) (fun w' hSw => ?_) ?_; rotate_left 1; (focus ((try dsimp only at hSw); skip; go_simp; try (with_reducible rfl))); (try simp only [wrapi_0, wrapi_1, wrapi_2, wrapi_3, wrapi_4]); simp only [Act.put, List.setIfInBounds_toArray, List.set_cons_zero, List.set_cons_succ]))
        refine plan_nil ?_
        go_wp2_with fail
        go_returns
        exact ⟨rfl, A1.out, A2.out, A3.out⟩
      | false =>
        rw [hxl] at y1
        have hR := HR.out
        rw [if_neg (by simp [hxl])] at hR
        clear hxl
        by_cases h1 : x.word.data.toList = [108, 101, 116]
        · have e1 : (x.word.toList == [108, 101, 116]) = true := by rw [ByteArray.toList_eq, h1]; rfl
          rw [if_pos h1] at hR
          have hB5 := HB1.out.drew
          have HB5 : Aside0 (Below w.heap.size w w1.drew) := ⟨hB5⟩
          have q0 := HP1.out.cell 0 _ rfl
          have q1 := HP1.out.cell 1 _ rfl
          have q2 := HP1.out.cell 2 _ rfl
          have hnb := HLET.out w1.drew r t (some ⟨ad.block, ad.off + 3, none⟩) (c - 1) b p lim (HH.out.below hB5) (Nat.le_trans hB hB5.size) (NR.trees (KR.of_below ((Below.refl _ w1).drew)) HRL1.out) (by rw [HM.out]; exact HCC.out) (by omega) (BL.next (KR.of_below hB5) HBL.out) HBO.out hlim hn
          rw [hR, HM.out] at hnb
          unfold plV at hnb
          have HNB := Aside0.mk hnb
          clear hR hnb hB5 h1
          go_upto_region 7 with (fail)
          refine wp_plan [(0, 0), (0, 1), (0, 2), (1, 3), (3, 4), (0, 5), (0, 6), (0, 7), (0, 8)] (fun w' => w' = _) (by kernel_rfl) (by kernel_rfl) (fun _ _ d _ _ h => by cases d <;> exact h) rfl ?_
          simp only [planOps, List.filterMap_cons, List.filterMap_nil, List.getElem?_toArray, List.getElem?_cons_zero, List.getElem?_cons_succ, Option.map_some]
          repeat (first
            | (refine' plan_pu _ (by rfl) (fun w' => ?_) ?_; rotate_left 1; (focus (go_simp; try (with_reducible rfl))); (try simp only [wrapi_0, wrapi_1, wrapi_2, wrapi_3, wrapi_4, wrapi_0]); simp only [Act.put, List.setIfInBounds_toArray, List.set_cons_zero, List.set_cons_succ])
            | (refine' plan_off (by rfl) ?_; (try simp only [wrapi_0, wrapi_1, wrapi_2, wrapi_3, wrapi_4, wrapi_0]); simp only [Act.put, List.setIfInBounds_toArray, List.set_cons_zero, List.set_cons_succ])
            | (refine' plan_offL (by rfl) ?_; (try simp only [wrapi_0, wrapi_1, wrapi_2, wrapi_3, wrapi_4, wrapi_0]); simp only [Act.put, List.setIfInBounds_toArray, List.set_cons_zero, List.set_cons_succ])
            | (refine' plan_ld _ (by rfl) (fun w' hSw => ?_) ?_; rotate_left 1; (focus (subst hSw; go_simp; try (with_reducible rfl))); (try simp only [wrapi_0, wrapi_1, wrapi_2, wrapi_3, wrapi_4, wrapi_0]); simp only [Act.put, List.setIfInBounds_toArray, List.set_cons_zero, List.set_cons_succ]))
          refine plan_fi (fun K hK => ?_)
          go_simp
          refine HNB.out.mono ?_
          rintro e w9 ⟨rfl, a1', a2', a3'⟩
          have A1 := Aside0.mk a1'
          have A2 := Aside0.mk ((KR.of_below HB5.out).trans a2')
          have A3 := Aside0.mk ((HB5.out.mono hB).trans a3')
          clear a1' a2' a3'
          refine hK.out _ _ ?_
          clear hK K
          repeat (first
            | (refine' plan_pu _ (by rfl) (fun w' => ?_) ?_; rotate_left 1; (focus (go_simp; try (with_reducible rfl))); (try simp only [wrapi_0, wrapi_1, wrapi_2, wrapi_3, wrapi_4]); simp only [Act.put, List.setIfInBounds_toArray, List.set_cons_zero, List.set_cons_succ])
            | (refine' plan_off (by rfl) ?_; (try simp only [wrapi_0, wrapi_1, wrapi_2, wrapi_3, wrapi_4]); simp only [Act.put, List.setIfInBounds_toArray, List.set_cons_zero, List.set_cons_succ])
            | (refine' plan_offL (by rfl) ?_; (try simp only [wrapi_0, wrapi_1, wrapi_2, wrapi_3, wrapi_4]); simp only [Act.put, List.setIfInBounds_toArray, List.set_cons_zero, List.set_cons_succ])
            | (refine' plan_offE (by rfl) (by first | assumption | exact (by assumption)) ?_; (try simp only [wrapi_0, wrapi_1, wrapi_2, wrapi_3, wrapi_4]); simp only [Act.put, List.setIfInBounds_toArray, List.set_cons_zero, List.set_cons_succ])
            | (refine' plan_ld _ (by rfl) (fun w' hSw => ?_) ?_; rotate_left 1; (focus ((try dsimp only at hSw); skip; go_simp; try (with_reducible rfl))); (try simp only [wrapi_0, wrapi_1, wrapi_2, wrapi_3, wrapi_4]); simp only [Act.put, List.setIfInBounds_toArray, List.set_cons_zero, List.set_cons_succ]))
          refine plan_nil ?_
          go_wp2_with fail
          go_returns
          exact ⟨rfl, A1.out, A2.out, A3.out⟩
        · have e1 : (x.word.toList == [108, 101, 116]) = false := by rw [ByteArray.toList_eq]; simpa using h1
          rw [if_neg h1] at hR
          by_cases h2 : x.word.data.toList = [95]
          · have e2 : (x.word.toList == [95]) = true := by rw [ByteArray.toList_eq, h2]; rfl
            rw [if_pos h2] at hR
            have hnb := HBITS.out w1 r t (some ⟨ad.block, ad.off + 3, none⟩) (c - 1) (HH.out.below HB1.out) (Nat.le_trans hB HB1.out.size) HRL1.out (by rw [HM.out]; exact HCC.out) (by omega) hn
            rw [hR, HM.out] at hnb
            have HNB := Aside0.mk hnb
            clear hR hnb h1 h2
            go_wp2_with fail
            refine HNB.out.mono ?_
            intro e w9 hp
            have hq := RPost.pre HB1.out hB hp
            obtain ⟨rfl, hq2⟩ := hq
            have HQ := Aside0.mk hq2
            clear hq2 hp
            go_wp2_with fail
            go_returns
            exact ⟨rfl, HQ.out⟩
          · have e2 : (x.word.toList == [95]) = false := by rw [ByteArray.toList_eq]; simpa using h2
            rw [if_neg h2] at hR
            clear h1 h2
            obtain ⟨nm, hnm⟩ : ∃ v, nameB x.word.data.toList = v := ⟨_, rfl⟩
            have hNa := fun W => readName_any x.word W (by unfold maxLen at hwz; omega)
            rw [hnm] at hR hNa
            have HNA := Aside0.mk hNa
            clear hNa hnm
            go_wp2_with fail
            refine (HNA.out _).mono ?_
            rintro e w2 ⟨rfl, hB2⟩
            have HB2 := Aside0.mk (HB1.out.trans (hB2.mono HB1.out.size))
            have HP2 := Aside0.mk (HP1.out.below hB2)
            have HC2 := Aside0.mk (HC1.out.below hB2)
            have HRL2 := Aside0.mk (NR.trees (KR.of_below hB2) HRL1.out)
            clear hB2 y0 y1 y2
            have y0 := HC2.out.cell 0 _ rfl
            cases nm with
            | true =>
              rw [if_pos rfl] at hR
              have hB5 := HB2.out.drew
              have HB5 : Aside0 (Below w.heap.size w w2.drew) := ⟨hB5⟩
              have q0 := HP2.out.cell 0 _ rfl
              have q1 := HP2.out.cell 1 _ rfl
              have q2 := HP2.out.cell 2 _ rfl
              have hnb := use_any z w2.drew E vl cs defs r rec d hd HT.out HRR.out HMO.out x.word hwz t (some ⟨ad.block, ad.off + 3, none⟩) (c - 1) b p lim (HH.out.below hB5) (Nat.le_trans hB hB5.size) (NR.trees (KR.of_below ((Below.refl _ w2).drew)) HRL2.out) (by rw [HM.out]; exact HCC.out) (by omega) (BL.next (KR.of_below hB5) HBL.out) HBO.out hlim hn
              rw [hR, HM.out] at hnb
              unfold plV at hnb
              have HNB := Aside0.mk hnb
              clear hR hnb hB5
              go_upto_region 11 with (fail)
              refine wp_plan [(0, 0), (0, 1), (0, 3), (0, 4), (1, 2), (1, 5), (3, 6), (0, 7), (0, 8), (0, 9), (0, 10)] (fun w' => w' = _) (by kernel_rfl) (by kernel_rfl) (fun _ _ d _ _ h => by cases d <;> exact h) rfl ?_
              simp only [planOps, List.filterMap_cons, List.filterMap_nil, List.getElem?_toArray, List.getElem?_cons_zero, List.getElem?_cons_succ, Option.map_some]
              repeat (first
                | (refine' plan_pu _ (by rfl) (fun w' => ?_) ?_; rotate_left 1; (focus (go_simp; try (with_reducible rfl))); (try simp only [wrapi_0, wrapi_1, wrapi_2, wrapi_3, wrapi_4, wrapi_0]); simp only [Act.put, List.setIfInBounds_toArray, List.set_cons_zero, List.set_cons_succ])
                | (refine' plan_off (by rfl) ?_; (try simp only [wrapi_0, wrapi_1, wrapi_2, wrapi_3, wrapi_4, wrapi_0]); simp only [Act.put, List.setIfInBounds_toArray, List.set_cons_zero, List.set_cons_succ])
                | (refine' plan_offL (by rfl) ?_; (try simp only [wrapi_0, wrapi_1, wrapi_2, wrapi_3, wrapi_4, wrapi_0]); simp only [Act.put, List.setIfInBounds_toArray, List.set_cons_zero, List.set_cons_succ])
                | (refine' plan_ld _ (by rfl) (fun w' hSw => ?_) ?_; rotate_left 1; (focus (subst hSw; go_simp; try (with_reducible rfl))); (try simp only [wrapi_0, wrapi_1, wrapi_2, wrapi_3, wrapi_4, wrapi_0]); simp only [Act.put, List.setIfInBounds_toArray, List.set_cons_zero, List.set_cons_succ]))
              refine plan_fi (fun K hK => ?_)
              go_simp
              refine HNB.out.mono ?_
              rintro e w9 ⟨rfl, a1', a2', a3'⟩
              have A1 := Aside0.mk a1'
              have A2 := Aside0.mk ((KR.of_below HB5.out).trans a2')
              have A3 := Aside0.mk ((HB5.out.mono hB).trans a3')
              clear a1' a2' a3'
              refine hK.out _ _ ?_
              clear hK K
              repeat (first
                | (refine' plan_pu _ (by rfl) (fun w' => ?_) ?_; rotate_left 1; (focus (go_simp; try (with_reducible rfl))); (try simp only [wrapi_0, wrapi_1, wrapi_2, wrapi_3, wrapi_4]); simp only [Act.put, List.setIfInBounds_toArray, List.set_cons_zero, List.set_cons_succ])
                | (refine' plan_off (by rfl) ?_; (try simp only [wrapi_0, wrapi_1, wrapi_2, wrapi_3, wrapi_4]); simp only [Act.put, List.setIfInBounds_toArray, List.set_cons_zero, List.set_cons_succ])
                | (refine' plan_offL (by rfl) ?_; (try simp only [wrapi_0, wrapi_1, wrapi_2, wrapi_3, wrapi_4]); simp only [Act.put, List.setIfInBounds_toArray, List.set_cons_zero, List.set_cons_succ])
                | (refine' plan_offE (by rfl) (by first | assumption | exact (by assumption)) ?_; (try simp only [wrapi_0, wrapi_1, wrapi_2, wrapi_3, wrapi_4]); simp only [Act.put, List.setIfInBounds_toArray, List.set_cons_zero, List.set_cons_succ])
                | (refine' plan_ld _ (by rfl) (fun w' hSw => ?_) ?_; rotate_left 1; (focus ((try dsimp only at hSw); skip; go_simp; try (with_reducible rfl))); (try simp only [wrapi_0, wrapi_1, wrapi_2, wrapi_3, wrapi_4]); simp only [Act.put, List.setIfInBounds_toArray, List.set_cons_zero, List.set_cons_succ]))
              refine plan_nil ?_
              go_wp2_with fail
              go_returns
              exact ⟨rfl, A1.out, A2.out, A3.out⟩
            | false =>
              rw [if_neg (by simp)] at hR
              obtain ⟨op, hop⟩ : ∃ v, opV x.word.data.toList = v := ⟨_, rfl⟩
              have hok : i64ok op := by rw [← hop]; exact opV_ok _
              have hOp := fun W => Op_any x.word (by unfold maxLen at hwz; omega) W
              rw [hop] at hR hOp
              have HOP := Aside0.mk hOp
              have HOK := Aside0.mk hok
              clear hop hOp hok
              go_wp2_with fail
              refine (HOP.out _).mono ?_
              rintro e w3 ⟨rfl, hB3⟩
              have HB3 := Aside0.mk (HB2.out.trans (hB3.mono HB2.out.size))
              have HP3 := Aside0.mk (HP2.out.below hB3)
              have HRL3 := Aside0.mk (NR.trees (KR.of_below hB3) HRL2.out)
              clear hB3 y0
              by_cases h0 : op = 0
              · rw [if_pos h0] at hR
                have HR2 := Aside0.mk hR
                clear hR
                subst h0
                go_wp2_with fail
                go_returns
                rw [← HR2.out]
                exact RPost.new HH.out HB3.out hB 0 50
              · rw [if_neg h0] at hR
                have h0b : (op == 0) = false := by simpa using h0
                clear h0
                obtain ⟨nb, hnb⟩ : ∃ v, numbersV op = v := ⟨_, rfl⟩
                have hNu := fun W => Numbers_any op W
                rw [hnb] at hR hNu
                have HNU := Aside0.mk hNu
                clear hnb hNu
                go_wp2_with fail
                refine (HNU.out _).mono ?_
                rintro e w4 ⟨rfl, hB4⟩
                have HB4 := Aside0.mk (HB3.out.trans (hB4.mono HB3.out.size))
                have HP4 := Aside0.mk (HP3.out.below hB4)
                have HRL4 := Aside0.mk (NR.trees (KR.of_below hB4) HRL3.out)
                clear hB4
                by_cases hn0 : nb = 0
                · rw [if_neg (by simpa using hn0)] at hR
                  subst hn0
                  have hB5 := HB4.out.drew
                  have HB5 : Aside0 (Below w.heap.size w w4.drew) := ⟨hB5⟩
                  have q0 := HP4.out.cell 0 _ rfl
                  have q1 := HP4.out.cell 1 _ rfl
                  have q2 := HP4.out.cell 2 _ rfl
                  have hnb := wop_any z w4.drew E vl cs defs r rec d hd HT.out HRR.out HMO.out op 0 0 HOK.out (by unfold i64ok; omega) (by unfold i64ok; omega) t (some ⟨ad.block, ad.off + 3, none⟩) (c - 1) b p lim (HH.out.below hB5) (Nat.le_trans hB hB5.size) (NR.trees (KR.of_below ((Below.refl _ w4).drew)) HRL4.out) (by rw [HM.out]; exact HCC.out) (by omega) (BL.next (KR.of_below hB5) HBL.out) HBO.out hlim hn
                  rw [hR, HM.out] at hnb
                  unfold plV opN at hnb
                  have HNB := Aside0.mk hnb
                  clear hR hnb hB5
                  go_upto_region 17 with (fail)
                  refine wp_plan [(0, 0), (0, 1), (0, 2), (0, 3), (0, 4), (1, 5), (3, 6), (0, 7), (0, 8), (0, 9), (0, 10)] (fun w' => w' = _) (by kernel_rfl) (by kernel_rfl) (fun _ _ d _ _ h => by cases d <;> exact h) rfl ?_
                  simp only [planOps, List.filterMap_cons, List.filterMap_nil, List.getElem?_toArray, List.getElem?_cons_zero, List.getElem?_cons_succ, Option.map_some]
                  repeat (first
                    | (refine' plan_pu _ (by rfl) (fun w' => ?_) ?_; rotate_left 1; (focus (go_simp; try (with_reducible rfl))); (try simp only [wrapi_0, wrapi_1, wrapi_2, wrapi_3, wrapi_4, wrapi_0]); simp only [Act.put, List.setIfInBounds_toArray, List.set_cons_zero, List.set_cons_succ])
                    | (refine' plan_off (by rfl) ?_; (try simp only [wrapi_0, wrapi_1, wrapi_2, wrapi_3, wrapi_4, wrapi_0]); simp only [Act.put, List.setIfInBounds_toArray, List.set_cons_zero, List.set_cons_succ])
                    | (refine' plan_offL (by rfl) ?_; (try simp only [wrapi_0, wrapi_1, wrapi_2, wrapi_3, wrapi_4, wrapi_0]); simp only [Act.put, List.setIfInBounds_toArray, List.set_cons_zero, List.set_cons_succ])
                    | (refine' plan_ld _ (by rfl) (fun w' hSw => ?_) ?_; rotate_left 1; (focus (subst hSw; go_simp; try (with_reducible rfl))); (try simp only [wrapi_0, wrapi_1, wrapi_2, wrapi_3, wrapi_4, wrapi_0]); simp only [Act.put, List.setIfInBounds_toArray, List.set_cons_zero, List.set_cons_succ]))
                  refine plan_fi (fun K hK => ?_)
                  go_simp
                  refine HNB.out.mono ?_
                  rintro e w9 ⟨rfl, a1', a2', a3'⟩
                  have A1 := Aside0.mk a1'
                  have A2 := Aside0.mk ((KR.of_below HB5.out).trans a2')
                  have A3 := Aside0.mk ((HB5.out.mono hB).trans a3')
                  clear a1' a2' a3'
                  refine hK.out _ _ ?_
                  clear hK K
                  repeat (first
                    | (refine' plan_pu _ (by rfl) (fun w' => ?_) ?_; rotate_left 1; (focus (go_simp; try (with_reducible rfl))); (try simp only [wrapi_0, wrapi_1, wrapi_2, wrapi_3, wrapi_4]); simp only [Act.put, List.setIfInBounds_toArray, List.set_cons_zero, List.set_cons_succ])
                    | (refine' plan_off (by rfl) ?_; (try simp only [wrapi_0, wrapi_1, wrapi_2, wrapi_3, wrapi_4]); simp only [Act.put, List.setIfInBounds_toArray, List.set_cons_zero, List.set_cons_succ])
                    | (refine' plan_offL (by rfl) ?_; (try simp only [wrapi_0, wrapi_1, wrapi_2, wrapi_3, wrapi_4]); simp only [Act.put, List.setIfInBounds_toArray, List.set_cons_zero, List.set_cons_succ])
                    | (refine' plan_offE (by rfl) (by first | assumption | exact (by assumption)) ?_; (try simp only [wrapi_0, wrapi_1, wrapi_2, wrapi_3, wrapi_4]); simp only [Act.put, List.setIfInBounds_toArray, List.set_cons_zero, List.set_cons_succ])
                    | (refine' plan_ld _ (by rfl) (fun w' hSw => ?_) ?_; rotate_left 1; (focus ((try dsimp only at hSw); skip; go_simp; try (with_reducible rfl))); (try simp only [wrapi_0, wrapi_1, wrapi_2, wrapi_3, wrapi_4]); simp only [Act.put, List.setIfInBounds_toArray, List.set_cons_zero, List.set_cons_succ]))
                  refine plan_nil ?_
                  go_wp2_with fail
                  go_returns
                  exact ⟨rfl, A1.out, A2.out, A3.out⟩
                · rw [if_pos (by simpa using hn0)] at hR
                  have HR2 := Aside0.mk hR
                  have hn1 : (0 : Int) < (nb : Int) := by omega
                  clear hR hn0
                  go_wp2_with fail
                  go_returns
                  rw [← HR2.out]
                  exact RPost.new HH.out HB4.out hB 0 54
end
end Go.Proofs.YthhnhbpmpdminaaGreatDoor
