/-
read.worker: operator, of term, walked. Conditions: the reader in memory.
-/
import Derived.Test.YthhnhbpmpdminaaGreatDoorXS
namespace Go.Proofs.YthhnhbpmpdminaaGreatDoor
set_option maxRecDepth 4096
set_option maxHeartbeats 8000000
set_option linter.unusedSimpArgs false
set_option linter.unusedVariables false
set_option linter.unnecessarySimpa false
open Go.RowKit Go.Proofs.YthhnhbpmpdminaaGreatDoorW.PrintWords Go.Maps PReadTwice
section
variable (z : Zr) (w : World) (E : List Ent) (vl : Value) (cs : List Value) (defs : Int) (r : Rd)
theorem seq_count {rec : Tm} (hmo : ∀ x b lim r, (rec x b lim r).1.2 = 0 → r.n + 1 ≤ (rec x b lim r).2.n) (b : Bnd) (lim : Nat) : ∀ (l : List Sx) (r : Rd), (allF rec l b lim r).1.2 = 0 → r.n + l.length ≤ (allF rec l b lim r).2.n
  | [], r, _ => Nat.le_refl _
  | x :: t, r, h => by
    unfold allF at h ⊢
    rw [seqF] at h ⊢
    by_cases hx : (rec x b lim r).1.2 ≠ 0
    · rw [if_pos hx] at h; exact absurd h hx
    · rw [if_neg hx] at h ⊢
      have h1 := hmo x b lim r (by simpa using hx)
      have h2 := seq_count hmo b lim t (rec x b lim r).2 h
      unfold allF at h2
      rw [List.length_cons]
      simp only at h2 ⊢
      omega
def opN (op p q : Int) : List Value := [.int .i64 op, .int .i64 0, .int .i64 0, .int .i64 0, .int .i64 0, .int .i64 p, .int .i64 q, .int .i64 0, .int .u64 0, .int .u64 0, .string ⟨#[]⟩]
theorem wop_any (rec : Tm) (d : Nat) (hd : d ≤ 900) (ht : TermC z E vl cs defs rec (d + 1)) (hr : TmOk E rec rec) (hmo : ∀ x b lim r, (rec x b lim r).1.2 = 0 → r.n + 1 ≤ (rec x b lim r).2.n)
    (op pn qn : Int) (ho : i64ok op) (hpn : i64ok pn) (hqn : i64ok qn) (l : List Sx) (A : Option Addr) (c : Nat) (b : Bnd) (p : Option Addr) (lim : Nat) (h : RI z w E vl cs defs r) (hB : z.B ≤ w.heap.size) (hl : RL w (NR z w) l A 0) (hlc : l.length ≤ c) (hc : c ≤ 9223372036854775807) (hb : BL z w b p) (hbo : BndOk b r.G) (hlim : lim ≤ E.length) (hn : r.n ≤ 65536) :
    Calls Tryz.prog 155 #[.pointer (some ⟨z.wb, 0, none⟩), .agg (opN op pn qn).toArray, .slice A l.length c, plV p lim d] w fun e w' => RPost z w E vl cs defs (operatorF rec op pn qn l b lim r) e w' := by
  obtain ⟨R, hR⟩ : ∃ R, operatorF rec op pn qn l b lim r = R := ⟨_, rfl⟩
  rw [hR]
  unfold operatorF at hR
  unfold plV
  obtain ⟨n, hnn⟩ : ∃ n, l.length = n := ⟨_, rfl⟩
  have hb0 := ((Below.refl _ w).alloc (Nat.le_refl _) (.cells (opN op pn qn).toArray 112)).alloc (by simp) (.cells #[.pointer p, .int .i64 (lim : Int), .int .i64 (d : Int)] 139)
  have hc0 := (Cells.new w 112 (opN op pn qn)).alloc (.cells #[.pointer p, .int .i64 (lim : Int), .int .i64 (d : Int)] 139)
  have hp0 : Cells ((w.alloc (.cells (opN op pn qn).toArray 112)).alloc (.cells #[.pointer p, .int .i64 (lim : Int), .int .i64 (d : Int)] 139)) (w.heap.size + 1) 139 [.pointer p, .int .i64 (lim : Int), .int .i64 (d : Int)] := by
    have := Cells.new (w.alloc (.cells (opN op pn qn).toArray 112)) 139 [.pointer p, .int .i64 (lim : Int), .int .i64 (d : Int)]
    simpa using this
  unfold opN at hb0 hc0 hp0 ⊢
  rw [hnn] at hR ⊢
  go_enter Tryz.func155, Tryz.ntmps155
  go_upto_region 1 with (fail)
  obtain ⟨w0, hw0⟩ : ∃ w0, (w.alloc (.cells #[.int .i64 op, .int .i64 0, .int .i64 0, .int .i64 0, .int .i64 0, .int .i64 pn, .int .i64 qn, .int .i64 0, .int .u64 0, .int .u64 0, .string ⟨#[]⟩] 112)).alloc (.cells #[.pointer p, .int .i64 (lim : Int), .int .i64 (d : Int)] 139) = w0 := ⟨_, rfl⟩
  rw [hw0] at hb0 hc0 hp0 ⊢
  clear hw0
  have HLN := Aside0.mk hnn
  have HB0 := Aside0.mk hb0
  have HC0 := Aside0.mk hc0
  have HP0 := Aside0.mk hp0
  have HH := Aside0.mk h
  have HT := Aside0.mk ht
  have HRR := Aside0.mk hr
  have HMO := Aside0.mk hmo
  have HBL := Aside0.mk hb
  have HRL := Aside0.mk hl
  have HBO := Aside0.mk hbo
  have HLC := Aside0.mk hlc
  have HOO := Aside0.mk ho
  have HPN := Aside0.mk hpn
  have HQN := Aside0.mk hqn
  have y0 := hc0.cell 0 _ rfl
  clear h ht hr hmo hb hl hbo hc0 hp0 hb0 hnn hlc ho hpn hqn
  obtain ⟨m, hm⟩ : ∃ m, manyV op = m := ⟨_, rfl⟩
  have hma := fun W => many_any op W
  rw [hm] at hma hR
  have HMA := Aside0.mk hma
  have HM := Aside0.mk hm
  clear hma hm
  go_wp2_with fail
  refine (HMA.out _).mono ?_
  rintro e w1 ⟨rfl, hB1⟩
  have HB1 := Aside0.mk (HB0.out.trans (hB1.mono HB0.out.size))
  have HC1 := Aside0.mk (HC0.out.below hB1)
  have HP1 := Aside0.mk (HP0.out.below hB1)
  clear hB1 y0
  have y0 := HC1.out.cell 0 _ rfl
  cases m with
  | true =>
    by_cases h2 : n < 2
    · rw [if_pos (.inl ⟨rfl, h2⟩)] at hR
      have HR := Aside0.mk hR
      have h2' : (n : Int) < 2 := by omega
      clear hR h2
      go_wp2_with fail
      go_returns
      rw [← HR.out]
      exact RPost.new HH.out HB1.out hB 0 54
    · rw [if_neg (by simp; omega)] at hR
      have h2' : ¬ (n : Int) < 2 := by omega
      have HR := Aside0.mk hR
      clear hR
      go_wp2_with fail
      refine (HMA.out _).mono ?_
      rintro e w2 ⟨rfl, hB2⟩
      have HB2 := Aside0.mk (HB1.out.trans (hB2.mono HB1.out.size))
      have HC2 := Aside0.mk (HC1.out.below hB2)
      have HP2 := Aside0.mk (HP1.out.below hB2)
      clear hB2 y0
      have H2 := HH.out.below HB2.out
      have hB2 : z.B ≤ w2.heap.size := Nat.le_trans hB HB2.out.size
      have hal := all_any z w2 E vl cs defs r rec d hd HT.out HRR.out HMO.out l A c b p lim H2 hB2 (NR.trees (KR.of_below HB2.out) HRL.out) (BL.next (KR.of_below HB2.out) HBL.out) HBO.out hlim hn (by have := HLC.out; omega)
      have hai := all_ids HRR.out (l := l) (lim := lim) HBO.out H2.dec hn
      have hco := seq_count HMO.out b lim l r
      have hR := HR.out
      obtain ⟨⟨⟨ids, er⟩, r2⟩, hrr⟩ : ∃ rr, allF rec l b lim r = rr := ⟨_, rfl⟩
      rw [hrr] at hal hai hR hco
      unfold plV at hal
      rw [HLN.out] at hal hco
      dsimp only at hal hai hco
      have HAL := Aside0.mk hal
      have HAI := Aside0.mk hai
      have HCO := Aside0.mk hco
      have HR1 := Aside0.mk hR
      have q0 := HP2.out.cell 0 _ rfl
      have q1 := HP2.out.cell 1 _ rfl
      have q2 := HP2.out.cell 2 _ rfl
      clear hrr hal hai hR hco H2 
      go_wp2_with fail
      refine HAL.out.mono ?_
      rintro e w6 ⟨v, rfl, g1, g2, g3, g4⟩
      have G1 := Aside0.mk g1
      have G2 := Aside0.mk ((KR.of_below HB2.out).trans g2)
      have G3 := Aside0.mk ((HB2.out.mono hB).trans g3)
      have HC6 := Aside0.mk (KR.cells HH.out HB2.out HC2.out (Nat.le_refl _) g2)
      have hB6 : z.B ≤ w6.heap.size := Nat.le_trans hB2 g2.size
      have HIB : Aside0 (er = 0 → IB (w2.heap.size + 1) w6 ids v) := ⟨fun q => g4 q⟩
      have HSZ := Aside0.mk g2.size
      clear g1 g2 g3 g4 q0 q1 q2
      have y0 := HC6.out.cell 0 _ rfl
      by_cases he : er = 0
      · subst he
        have hS : applyF op pn qn ids r2 = R := by
          have := HR1.out
          unfold thenL at this
          rw [if_neg (by simp)] at this
          exact this
        obtain ⟨hn2, hidl, hids⟩ := HAI.out.2 rfl
        have hidn : ids.length = n := hidl.trans HLN.out
        have hn6 : n ≤ 65536 := by have := HCO.out rfl; omega
        unfold applyF at hS
        have hne : ids ≠ [] := fun q => by rw [q] at hidn; simp at hidn; omega
        obtain ⟨b1, c1, rfl, hid, hc1, hc2⟩ := (HIB.out rfl).idok G1.out hne
        rw [hidn]
        by_cases h8 : op = 8
        · subst h8
          rw [if_pos rfl] at hS
          obtain ⟨a, t, rfl⟩ : ∃ a t, ids = a :: t := by cases ids with
            | nil => exact absurd rfl hne
            | cons x t => exact ⟨x, t, rfl⟩
          rw [List.length_cons] at hidn
          have hcl := chain_any z w6 E vl cs defs r2 a t b1 c1 (fun q => by rw [q] at hidn; simp at hidn; omega) hid (by omega) G1.out hB6
          rw [hS] at hcl
          rw [hidn] at hcl
          clear hne hid hc1 hc2 hS hids hidl hidn hn2 HAI HIB
          have HC9 := Aside0.mk hcl
          clear hcl
          go_wp2_with fail
          refine HC9.out.mono ?_
          rintro e w9 ⟨rfl, a1, a2, a3⟩
          have A1 := Aside0.mk a1
          have A2 := Aside0.mk (G2.out.trans a2)
          have A3 := Aside0.mk (G3.out.trans a3)
          clear a1 a2 a3
          go_wp2_with fail
          go_returns
          exact ⟨rfl, A1.out, A2.out, A3.out⟩
        · rw [if_neg h8] at hS
          by_cases h1 : op = -1
          · subst h1
            rw [if_pos rfl] at hS
            have hcl := distinct_any z w6 E vl cs defs r2 ids b1 c1 hid (by omega) (by omega) G1.out hB6
            rw [hS] at hcl
            rw [hidn] at hcl
            clear hne hid hc1 hc2 hS hids hidl hidn hn2 HAI HIB
            have HC9 := Aside0.mk hcl
            clear hcl
            go_wp2_with fail
            refine HC9.out.mono ?_
            rintro e w9 ⟨rfl, a1, a2, a3⟩
            have A1 := Aside0.mk a1
            have A2 := Aside0.mk (G2.out.trans a2)
            have A3 := Aside0.mk (G3.out.trans a3)
            clear a1 a2 a3
            go_wp2_with fail
            go_returns
            exact ⟨rfl, A1.out, A2.out, A3.out⟩
          · rw [if_neg h1] at hS
            by_cases h7 : op = 7
            · subst h7
              rw [if_pos rfl] at hS
              obtain ⟨t, a, rfl⟩ : ∃ t a, ids = t ++ [a] := ⟨ids.dropLast, ids.getLast hne, (List.dropLast_concat_getLast hne).symm⟩
              have hcl := fromRight_any z w6 E vl cs defs r2 7 (by unfold i64ok; omega) a t b1 c1 hid (by simp at hidn; omega) G1.out hB6
              have hS2 : rightF 7 t.reverse a r2 = R := by rw [← hS]; unfold rightA; simp
              rw [hS2] at hcl
              rw [List.length_append, List.length_singleton] at hidn
              rw [hidn] at hcl
              clear hne hid hc1 hc2 hS hS2 hids hidl hidn hn2 HAI HIB
              have HC9 := Aside0.mk hcl
              clear hcl
              go_wp2_with fail
              refine HC9.out.mono ?_
              rintro e w9 ⟨rfl, a1, a2, a3⟩
              have A1 := Aside0.mk a1
              have A2 := Aside0.mk (G2.out.trans a2)
              have A3 := Aside0.mk (G3.out.trans a3)
              clear a1 a2 a3
              go_wp2_with fail
              go_returns
              exact ⟨rfl, A1.out, A2.out, A3.out⟩
            · rw [if_neg h7, HM.out, if_pos rfl] at hS
              obtain ⟨a, t, rfl⟩ : ∃ a t, ids = a :: t := by cases ids with
                | nil => exact absurd rfl hne
                | cons x t => exact ⟨x, t, rfl⟩
              rw [List.length_cons] at hidn hc1
              have hS2 : leftF op t a r2 = R := by rw [← hS]; rfl
              have HID := Aside0.mk hid
              have HIDN := Aside0.mk hidn
              have HN6 := Aside0.mk hn6
              have HS2 := Aside0.mk hS2
              have HCC := Aside0.mk (And.intro hc1 hc2)
              clear hne hid hc1 hc2 hS hS2 hids hidl hidn hn2 hn6 HAI HIB
              go_wp2_with fail
              refine (HMA.out _).mono ?_
              rintro e w7 ⟨rfl, hB7⟩
              have hcl := fromLeft_any z w7 E vl cs defs r2 op HOO.out a t b1 c1 (HID.out.next (KR.of_below hB7)) (by have := HIDN.out; have := HN6.out; omega) HCC.out.1 HCC.out.2 (G1.out.below hB7) (Nat.le_trans hB6 hB7.size)
              rw [HS2.out, HIDN.out] at hcl
              have HC9 := Aside0.mk hcl
              have K7 := Aside0.mk (G2.out.step hB7)
              have B7 := Aside0.mk (G3.out.trans (hB7.mono hB6))
              have HC7 := Aside0.mk (HC6.out.below hB7)
              clear hcl y0 hB7
              have y0 := HC7.out.cell 0 _ rfl
              go_wp2_with fail
              refine HC9.out.mono ?_
              rintro e w9 ⟨rfl, a1, a2, a3⟩
              have A1 := Aside0.mk a1
              have A2 := Aside0.mk (K7.out.trans a2)
              have A3 := Aside0.mk (B7.out.trans a3)
              clear a1 a2 a3
              go_wp2_with fail
              go_returns
              exact ⟨rfl, A1.out, A2.out, A3.out⟩
      · have hS3 : failF er r2 = R := by
          have := HR1.out
          unfold thenL at this
          rw [if_pos he] at this
          exact this
        have HS3 := Aside0.mk hS3
        have he2 : (er != 0) = true := by simpa using he
        clear hS3
        go_wp2_with fail
        go_returns
        rw [← HS3.out]
        exact ⟨rfl, G1.out, G2.out, G3.out⟩
  | false =>
    by_cases har : (n : Int) = arityV op
    · rw [if_neg (by simp [har])] at hR
      have HR := Aside0.mk hR
      obtain ⟨ar, harr⟩ : ∃ a, arityV op = a := ⟨_, rfl⟩
      have hA := fun W => Arity_any op W
      rw [harr] at hA
      have HARI := Aside0.mk hA
      have HAR := Aside0.mk harr
      clear hR hA
      go_wp2_with fail
      refine (HMA.out _).mono ?_
      rintro e w2 ⟨rfl, hB2⟩
      have HB2 := Aside0.mk (HB1.out.trans (hB2.mono HB1.out.size))
      have HC2 := Aside0.mk (HC1.out.below hB2)
      have HP2 := Aside0.mk (HP1.out.below hB2)
      clear hB2 y0
      have y0 := HC2.out.cell 0 _ rfl
      go_wp2_with fail
      refine (HARI.out _).mono ?_
      rintro e w2' ⟨rfl, hw⟩
      rw [hw]
      clear hw w2'
      have hna : (n : Int) = ar := har.trans harr
      have HNA := Aside0.mk hna
      have hnb : ¬ ((n : Int) ≠ ar) := fun q => q hna
      have hnc : ((n : Int) != ar) = false := by simpa using hna
      clear hna harr
      have H2 := HH.out.below HB2.out
      have hB2 : z.B ≤ w2.heap.size := Nat.le_trans hB HB2.out.size
      have hal := all_any z w2 E vl cs defs r rec d hd HT.out HRR.out HMO.out l A c b p lim H2 hB2 (NR.trees (KR.of_below HB2.out) HRL.out) (BL.next (KR.of_below HB2.out) HBL.out) HBO.out hlim hn (by have := HLC.out; omega)
      have hai := all_ids HRR.out (l := l) (lim := lim) HBO.out H2.dec hn
      have hco := seq_count HMO.out b lim l r
      have hR := HR.out
      obtain ⟨⟨⟨ids, er⟩, r2⟩, hrr⟩ : ∃ rr, allF rec l b lim r = rr := ⟨_, rfl⟩
      rw [hrr] at hal hai hR hco
      unfold plV at hal
      rw [HLN.out] at hal hco
      dsimp only at hal hai hco
      have HAL := Aside0.mk hal
      have HAI := Aside0.mk hai
      have HCO := Aside0.mk hco
      have HR1 := Aside0.mk hR
      have q0 := HP2.out.cell 0 _ rfl
      have q1 := HP2.out.cell 1 _ rfl
      have q2 := HP2.out.cell 2 _ rfl
      clear hrr hal hai hR hco H2 
      go_wp2_with fail
      refine HAL.out.mono ?_
      rintro e w6 ⟨v, rfl, g1, g2, g3, g4⟩
      have G1 := Aside0.mk g1
      have G2 := Aside0.mk ((KR.of_below HB2.out).trans g2)
      have G3 := Aside0.mk ((HB2.out.mono hB).trans g3)
      have HC6 := Aside0.mk (KR.cells HH.out HB2.out HC2.out (Nat.le_refl _) g2)
      have hB6 : z.B ≤ w6.heap.size := Nat.le_trans hB2 g2.size
      have K26 := Aside0.mk g2
      have HIB : Aside0 (er = 0 → IB (w2.heap.size + 1) w6 ids v) := ⟨fun q => g4 q⟩
      have HSZ := Aside0.mk g2.size
      clear g1 g2 g3 g4 q0 q1 q2
      have y0 := HC6.out.cell 0 _ rfl
      by_cases he : er = 0
      · subst he
        have hS : applyF op pn qn ids r2 = R := by
          have := HR1.out
          unfold thenL at this
          rw [if_neg (by simp)] at this
          exact this
        obtain ⟨hn2, hidl, hids⟩ := HAI.out.2 rfl
        have hidn : ids.length = n := hidl.trans HLN.out
        have hn6 : n ≤ 65536 := by have := HCO.out rfl; omega
        unfold applyF at hS
        have h8 : op ≠ 8 := fun q => by have := HM.out; rw [q] at this; exact absurd this (by decide)
        have h1 : op ≠ -1 := fun q => by have := HM.out; rw [q] at this; exact absurd this (by decide)
        have h7 : op ≠ 7 := fun q => by have := HM.out; rw [q] at this; exact absurd this (by decide)
        rw [if_neg h8, if_neg h1, if_neg h7, HM.out, if_neg (by simp)] at hS
        have HIC := Aside0.mk (HIB.out rfl)
        have HS := Aside0.mk hS
        have HIDN := Aside0.mk hidn
        have HIDS := Aside0.mk hids
        have hn4 : n ≤ 3 := by have := har; unfold arityV at this; repeat' split at this <;> omega
        have HHAR := Aside0.mk har
        clear hS hids hidl hidn hn2 hn6 HAI HIB har
        go_wp2_with fail
        refine (HMA.out _).mono ?_
        rintro e w7 ⟨rfl, hB7⟩
        have HC7 := Aside0.mk (HC6.out.below hB7)
        have K27 := Aside0.mk (K26.out.step hB7)
        have HI7 := Aside0.mk (own_weaken (HIC.out.move G1.out (KR.of_below hB7)).own (Nat.le_succ w2.heap.size))
        have G17 := Aside0.mk (G1.out.below hB7)
        have B7 := Aside0.mk (G3.out.trans (hB7.mono hB6))
        have hz7 : w2.heap.size ≤ w7.heap.size := K27.out.size
        clear hB7 y0
        rw [HIDN.out] at HI7
        have hidz : idsN ids = idsN ids := rfl
        clear hidz
        go_wp2_with (at_builtin; (refine apl2_at (w0 := w7) _ w2.heap.size (.tmp 84) (.tmp 85) 61 3 (.int .i64 0) 8 v n (idsN ids) [.int .i64 0, .int .i64 0] ⟨w7.heap.size, 0, none⟩ 2 rfl rfl (fun j u hu => by rw [add0]; exact (Cells.new w7 _ _).cell j u hu) Tryz.underlying61 Tryz.infoIntI rfl (by decide) (by rfl) (by rfl) rfl (by simp [Value.oneCell']) (HI7.out.alloc _) ((Below.refl _ _).alloc hz7 _) (Nat.le_trans hz7 (by simp)) (by omega) ?_; intro v1 w8 hown1 hB8 hg8 hat8; have HO8 := Aside0.mk hown1; have HB8 := Aside0.mk hB8; have HG8 := Aside0.mk hg8; clear hown1 hB8 hg8 hat8))
        have HIV := Aside0.mk (own_cells HI7.out)
        have HC8 : Aside0 (Cells w8 w.heap.size 112 [.int .i64 op, .int .i64 0, .int .i64 0, .int .i64 0, .int .i64 0, .int .i64 pn, .int .i64 qn, .int .i64 0, .int .u64 0, .int .u64 0, .string ⟨#[]⟩]) := ⟨(HC7.out.alloc _).grown HG8.out (fun q => by
          obtain ⟨l', hl'⟩ := HIV.out _ q
          exact absurd (hl'.ty HC7.out).1 (by decide))⟩
        have K28 : Aside0 (KR z w2 w8) := ⟨K27.out.grow HB8.out⟩
        have K8 : Aside0 (KR z w w8) := ⟨(KR.of_below HB2.out).trans K28.out⟩
        have B8 : Aside0 (Below z.B w w8) := ⟨B7.out.trans (HB8.out.mono hB2)⟩
        have HI8 : Aside0 (RI z w8 E vl cs defs r2) := ⟨(G17.out.below ((Below.refl _ w7).alloc (Nat.le_refl _) _)).grown (HI7.out.alloc _) HG8.out (HH.out.sc.next K8.out)⟩
        obtain ⟨b2, cap2, l2, rfl, hl2, hbb2, hcap2, _, hcap9⟩ := own_row HO8.out (by omega)
        have HD8 : Aside0 (∀ j, j < n + 2 → w8.cell? ⟨b2, j, none⟩ = some (.int .i64 ((ids.getD j 0 : Nat) : Int))) := ⟨fun j hj => by
          have := HO8.out.cells (g := b2) rfl j _ (ids_pad ids j (by rw [HIDN.out]; exact hj))
          rw [add0] at this
          exact this⟩
        have hb2ne : b2 ≠ w.heap.size := fun q => by
          rw [q] at hl2
          exact absurd (hl2.ty HC8.out).1 (by decide)
        have HSS : Aside0 (makeF ⟨op, 0, (ids.getD 0 0 : Nat), (ids.getD 1 0 : Nat), (if arityV op = 3 then (ids.getD 2 0 : Nat) else 0), pn, qn, 0, 0, 0, ⟨#[]⟩⟩ r2 = R) := ⟨HS.out⟩
        have HSM : Aside0 (∀ j, ids.getD j 0 ≤ 1000000) := ⟨fun j => by
          by_cases hj : j < ids.length
          · have hm := HIC.out.small (ids.getD j 0) (by simp [List.getD, List.getElem?_eq_getElem hj])
            exact hm
          · simp [List.getD, List.getElem?_eq_none (Nat.le_of_not_lt hj)]⟩
        have sm0 := HSM.out 0
        have sm1 := HSM.out 1
        have sm2 := HSM.out 2
        have e0 := HD8.out 0 (by omega)
        have e1 := HD8.out 1 (by omega)
        have HE2 : Aside0 (n = 3 → w8.cell? ⟨b2, 2, none⟩ = some (.int .i64 ((ids.getD 2 0 : Nat) : Int))) := ⟨fun q => HD8.out 2 (by omega)⟩
        obtain ⟨a0, ha0⟩ : ∃ a, ids.getD 0 0 = a := ⟨_, rfl⟩
        obtain ⟨a1, ha1⟩ : ∃ a, ids.getD 1 0 = a := ⟨_, rfl⟩
        obtain ⟨a2, ha2⟩ : ∃ a, ids.getD 2 0 = a := ⟨_, rfl⟩
        rw [ha0, ha1, ha2] at HSS
        rw [ha0] at e0 sm0
        rw [ha1] at e1 sm1
        rw [ha2] at HE2 sm2
        have d2 := HC8.out.cell 2 _ rfl
        have d3 := HC8.out.cell 3 _ rfl
        have d4 := HC8.out.cell 4 _ rfl
        have f2 := HC8.out.frozen 2
        have f3 := HC8.out.frozen 3
        have f4 := HC8.out.frozen 4
        have z0 : (0 : Int) < (n : Int) + 2 := by omega
        have z1 : (1 : Int) < (n : Int) + 2 := by omega
        have HN2 := Aside0.mk hb2ne
        have HL2 := Aside0.mk hl2.lt
        clear ha0 ha1 ha2 HS HSM HD8 HO8 HIV hl2 hb2ne
        refine wp_plan [(0, 0), (0, 1), (0, 3), (0, 4), (1, 2), (0, 6), (1, 5), (2, 7), (0, 8), (3, 9), (0, 10), (3, 11)] (fun w' => w'.cell? ⟨b2, 0, none⟩ = some (.int .i64 (a0 : Int)) ∧ w'.cell? ⟨b2, 1, none⟩ = some (.int .i64 (a1 : Int))) (by kernel_rfl) (by kernel_rfl) (fun _ _ d _ _ h => by cases d <;> exact h) ⟨e0, e1⟩ ?_
        simp only [planOps, List.filterMap_cons, List.filterMap_nil, List.getElem?_toArray, List.getElem?_cons_zero, List.getElem?_cons_succ, Option.map_some]
        repeat (first
          | (refine' plan_pu _ (by rfl) (fun w' => ?_) ?_; rotate_left 1; (focus (go_simp; try (with_reducible rfl))); (try simp only [wrapi_0, wrapi_1, wrapi_2, wrapi_3, wrapi_4]); simp only [Act.put, List.setIfInBounds_toArray, List.set_cons_zero, List.set_cons_succ])
          | (refine' plan_off (by rfl) ?_; (try simp only [wrapi_0, wrapi_1, wrapi_2, wrapi_3, wrapi_4]); simp only [Act.put, List.setIfInBounds_toArray, List.set_cons_zero, List.set_cons_succ])
          | (refine' plan_offL (by rfl) ?_; (try simp only [wrapi_0, wrapi_1, wrapi_2, wrapi_3, wrapi_4]); simp only [Act.put, List.setIfInBounds_toArray, List.set_cons_zero, List.set_cons_succ])
          | (refine' plan_offE (by rfl) (by first | assumption | exact (by assumption)) ?_; (try simp only [wrapi_0, wrapi_1, wrapi_2, wrapi_3, wrapi_4]); simp only [Act.put, List.setIfInBounds_toArray, List.set_cons_zero, List.set_cons_succ])
          | (refine' plan_ld _ (by rfl) (fun w' hSw => ?_) ?_; rotate_left 1; (focus ((try dsimp only at hSw); have c0 := hSw.1; have c1 := hSw.2; go_simp; try (with_reducible rfl))); (try simp only [wrapi_0, wrapi_1, wrapi_2, wrapi_3, wrapi_4]); simp only [Act.put, List.setIfInBounds_toArray, List.set_cons_zero, List.set_cons_succ]))
        refine plan_ef (fun K hK => ?_)
        go_simp
        refine hK.out _ _ ⟨(World.cell?_of_block (w := w8) (Below.heap_setCell w8 ⟨w.heap.size, 2, none⟩ _ b2 HN2.out)).trans e0, (World.cell?_of_block (w := w8) (Below.heap_setCell w8 ⟨w.heap.size, 2, none⟩ _ b2 HN2.out)).trans e1⟩ (fun _ => ?_)
        clear hK K d2 d3 d4 f2 f3 f4
        have hc81 := (HC8.out.set 2 (.int .i64 (a0 : Int))).drew
        obtain ⟨w81, hw81⟩ : ∃ w', (w8.setCell ⟨w.heap.size, 2, none⟩ (.int .i64 (a0 : Int))).drew = w' := ⟨_, rfl⟩
        have hm81 : Mod (fun j => j = w.heap.size) w8 w81 := by rw [← hw81]; exact (Mod.setCell (S := fun j => j = w.heap.size) (Mod.refl _ _) (.inl rfl) _).drew
        rw [hw81] at hc81 ⊢
        clear hw81
        have HC81 := Aside0.mk hc81
        have HM81 := Aside0.mk hm81
        have d3 := hc81.cell 3 _ rfl
        have f3 := hc81.frozen 3
        clear hc81 hm81
        repeat (first
          | (refine' plan_pu _ (by rfl) (fun w' => ?_) ?_; rotate_left 1; (focus (go_simp; try (with_reducible rfl))); (try simp only [wrapi_0, wrapi_1, wrapi_2, wrapi_3, wrapi_4]); simp only [Act.put, List.setIfInBounds_toArray, List.set_cons_zero, List.set_cons_succ])
          | (refine' plan_off (by rfl) ?_; (try simp only [wrapi_0, wrapi_1, wrapi_2, wrapi_3, wrapi_4]); simp only [Act.put, List.setIfInBounds_toArray, List.set_cons_zero, List.set_cons_succ])
          | (refine' plan_offL (by rfl) ?_; (try simp only [wrapi_0, wrapi_1, wrapi_2, wrapi_3, wrapi_4]); simp only [Act.put, List.setIfInBounds_toArray, List.set_cons_zero, List.set_cons_succ])
          | (refine' plan_offE (by rfl) (by first | assumption | exact (by assumption)) ?_; (try simp only [wrapi_0, wrapi_1, wrapi_2, wrapi_3, wrapi_4]); simp only [Act.put, List.setIfInBounds_toArray, List.set_cons_zero, List.set_cons_succ])
          | (refine' plan_ld _ (by rfl) (fun w' hSw => ?_) ?_; rotate_left 1; (focus ((try dsimp only at hSw); skip; go_simp; try (with_reducible rfl))); (try simp only [wrapi_0, wrapi_1, wrapi_2, wrapi_3, wrapi_4]); simp only [Act.put, List.setIfInBounds_toArray, List.set_cons_zero, List.set_cons_succ]))
        refine plan_fi (fun K hK => ?_)
        go_simp
        refine hK.out _ _ ?_
        clear hK K d3 f3
        have hc82 := HC81.out.set 3 (.int .i64 (a1 : Int))
        obtain ⟨w82, hw82⟩ : ∃ w', w81.setCell ⟨w.heap.size, 3, none⟩ (.int .i64 (a1 : Int)) = w' := ⟨_, rfl⟩
        have hm82 : Mod (fun j => j = w.heap.size) w8 w82 := by rw [← hw82]; exact Mod.setCell (S := fun j => j = w.heap.size) HM81.out (.inl rfl) _
        rw [hw82] at hc82 ⊢
        clear hw82
        have HC82 := Aside0.mk hc82
        have HM82 := Aside0.mk hm82
        have d4 := hc82.cell 4 _ rfl
        have f4 := hc82.frozen 4
        clear hc82 hm82
        repeat (first
          | (refine' plan_pu _ (by rfl) (fun w' => ?_) ?_; rotate_left 1; (focus (go_simp; try (with_reducible rfl))); (try simp only [wrapi_0, wrapi_1, wrapi_2, wrapi_3, wrapi_4]); simp only [Act.put, List.setIfInBounds_toArray, List.set_cons_zero, List.set_cons_succ])
          | (refine' plan_off (by rfl) ?_; (try simp only [wrapi_0, wrapi_1, wrapi_2, wrapi_3, wrapi_4]); simp only [Act.put, List.setIfInBounds_toArray, List.set_cons_zero, List.set_cons_succ])
          | (refine' plan_offL (by rfl) ?_; (try simp only [wrapi_0, wrapi_1, wrapi_2, wrapi_3, wrapi_4]); simp only [Act.put, List.setIfInBounds_toArray, List.set_cons_zero, List.set_cons_succ])
          | (refine' plan_offE (by rfl) (by first | assumption | exact (by assumption)) ?_; (try simp only [wrapi_0, wrapi_1, wrapi_2, wrapi_3, wrapi_4]); simp only [Act.put, List.setIfInBounds_toArray, List.set_cons_zero, List.set_cons_succ])
          | (refine' plan_ld _ (by rfl) (fun w' hSw => ?_) ?_; rotate_left 1; (focus ((try dsimp only at hSw); skip; go_simp; try (with_reducible rfl))); (try simp only [wrapi_0, wrapi_1, wrapi_2, wrapi_3, wrapi_4]); simp only [Act.put, List.setIfInBounds_toArray, List.set_cons_zero, List.set_cons_succ]))
        refine plan_fi (fun K hK => ?_)
        go_simp
        refine hK.out _ _ ?_
        clear hK K d4 f4
        have hc83 := HC82.out.set 4 (.int .i64 0)
        obtain ⟨w83, hw83⟩ : ∃ w', w82.setCell ⟨w.heap.size, 4, none⟩ (.int .i64 0) = w' := ⟨_, rfl⟩
        have hm83 : Mod (fun j => j = w.heap.size) w8 w83 := by rw [← hw83]; exact Mod.setCell (S := fun j => j = w.heap.size) HM82.out (.inl rfl) _
        rw [hw83] at hc83 ⊢
        clear hw83
        have HC83 : Aside0 (Cells w83 w.heap.size 112 [.int .i64 op, .int .i64 0, .int .i64 (a0 : Int), .int .i64 (a1 : Int), .int .i64 0, .int .i64 pn, .int .i64 qn, .int .i64 0, .int .u64 0, .int .u64 0, .string ⟨#[]⟩]) := ⟨hc83⟩
        have hrr := RI.put HH.out HB2.out (Nat.le_refl _) HC2.out.lt K28.out HI8.out hm83
        have HI83 := Aside0.mk hrr.1
        have K83 := Aside0.mk hrr.2
        have B83 : Aside0 (Below z.B w w83) := ⟨B8.out.trans (hm83.belowB (fun k q => by rw [q]; exact hB) (Nat.le_trans hB K8.out.size))⟩
        have HM83 := Aside0.mk hm83
        have HE3 : Aside0 (n = 3 → w83.cell? ⟨b2, 2, none⟩ = some (.int .i64 (a2 : Int))) := ⟨fun q => (World.cell?_of_block (w := w8) (hm83.keep b2 HL2.out HN2.out)).trans (HE2.out q)⟩
        have y0 := HC83.out.cell 0 _ rfl
        clear hc83 hm83 hrr HE2 HM82 HM81 HC82 HC81 e0 e1
        refine plan_nil ?_
        go_wp2_with fail
        refine (HARI.out _).mono ?_
        rintro e w84 ⟨rfl, hw⟩
        rw [hw]
        clear hw w84
        by_cases h3 : ar = 3
        · have har3 : arityV op = 3 := HAR.out.trans h3
          have hn3 : n = 3 := by have := HNA.out; omega
          have e2 := HE3.out hn3
          have z2 : (2 : Int) < (n : Int) + 2 := by omega
          have d4 := HC83.out.cell 4 _ rfl
          have f4 := HC83.out.frozen 4
          have HA3 := Aside0.mk har3
          subst h3
          clear har3 hn3 HE3
          go_upto_region 18 with (fail)
          have hc10 := HC83.out.set 4 (.int .i64 (a2 : Int))
          obtain ⟨w10, hw10⟩ : ∃ w', w83.setCell ⟨w.heap.size, 4, none⟩ (.int .i64 (a2 : Int)) = w' := ⟨_, rfl⟩
          have hm10 : Mod (fun j => j = w.heap.size) w8 w10 := by rw [← hw10]; exact Mod.setCell (S := fun j => j = w.heap.size) HM83.out (.inl rfl) _
          rw [hw10] at hc10 ⊢
          clear hw10
          have HC10 : Aside0 (Cells w10 w.heap.size 112 [.int .i64 op, .int .i64 0, .int .i64 (a0 : Int), .int .i64 (a1 : Int), .int .i64 (a2 : Int), .int .i64 pn, .int .i64 qn, .int .i64 0, .int .u64 0, .int .u64 0, .string ⟨#[]⟩]) := ⟨hc10⟩
          have hrr := RI.put HH.out HB2.out (Nat.le_refl _) HC2.out.lt K28.out HI8.out hm10
          have HI10 := Aside0.mk hrr.1
          have K10 := Aside0.mk hrr.2
          have B10 : Aside0 (Below z.B w w10) := ⟨B8.out.trans (hm10.belowB (fun k q => by rw [q]; exact hB) (Nat.le_trans hB K8.out.size))⟩
          clear hc10 hm10 hrr e2 d4 f4 y0
          have HX : Aside0 (Nd.Wf ⟨op, 0, a0, a1, (a2 : Nat), pn, qn, 0, 0, 0, ⟨#[]⟩⟩) := ⟨by
            constructor
            all_goals first
              | exact HOO.out
              | exact HPN.out
              | exact HQN.out
              | (unfold i64ok; simp only; omega)
              | (unfold u64ok; simp only; omega)
              | exact Nat.zero_le _⟩
          have HF : Aside0 (makeF ⟨op, 0, a0, a1, (a2 : Nat), pn, qn, 0, 0, 0, ⟨#[]⟩⟩ r2 = R) := ⟨by rw [← HSS.out, if_pos HA3.out]⟩
          have c0 := HI10.out.wk.cell 0 _ rfl
          have s0 := HI10.out.sc.scope.cell 0 _ rfl
          have d0 := HC10.out.cell 0 _ rfl
          have d1 := HC10.out.cell 1 _ rfl
          have d2 := HC10.out.cell 2 _ rfl
          have d3 := HC10.out.cell 3 _ rfl
          have d4 := HC10.out.cell 4 _ rfl
          have d5 := HC10.out.cell 5 _ rfl
          have d6 := HC10.out.cell 6 _ rfl
          have d7 := HC10.out.cell 7 _ rfl
          have d8 := HC10.out.cell 8 _ rfl
          have d9 := HC10.out.cell 9 _ rfl
          have d10 := HC10.out.cell 10 _ rfl
          refine wp_plan [(0, 0), (0, 1), (0, 2), (1, 3), (0, 4), (0, 5), (1, 6), (1, 7), (3, 8), (0, 9), (0, 10), (0, 11), (0, 12)] (fun w' => w' = _) (by kernel_rfl) (by kernel_rfl) (fun _ _ d _ _ h => by cases d <;> exact h) rfl ?_
          simp only [planOps, List.filterMap_cons, List.filterMap_nil, List.getElem?_toArray, List.getElem?_cons_zero, List.getElem?_cons_succ, Option.map_some]
          repeat (first
            | (refine' plan_pu _ (by rfl) (fun w' => ?_) ?_; rotate_left 1; (focus (go_simp; try (with_reducible rfl))); (try simp only [wrapi_0, wrapi_1, wrapi_2, wrapi_3, wrapi_4, wrapi_0]); simp only [Act.put, List.setIfInBounds_toArray, List.set_cons_zero, List.set_cons_succ])
            | (refine' plan_off (by rfl) ?_; (try simp only [wrapi_0, wrapi_1, wrapi_2, wrapi_3, wrapi_4, wrapi_0]); simp only [Act.put, List.setIfInBounds_toArray, List.set_cons_zero, List.set_cons_succ])
            | (refine' plan_offL (by rfl) ?_; (try simp only [wrapi_0, wrapi_1, wrapi_2, wrapi_3, wrapi_4, wrapi_0]); simp only [Act.put, List.setIfInBounds_toArray, List.set_cons_zero, List.set_cons_succ])
            | (refine' plan_ld _ (by rfl) (fun w' hSw => ?_) ?_; rotate_left 1; (focus (subst hSw; go_simp; try (with_reducible rfl))); (try simp only [wrapi_0, wrapi_1, wrapi_2, wrapi_3, wrapi_4, wrapi_0]); simp only [Act.put, List.setIfInBounds_toArray, List.set_cons_zero, List.set_cons_succ]))
          refine plan_fi (fun K hK => ?_)
          go_simp
          obtain ⟨vn, hg⟩ := HI10.out.gi
          have hbd : Below w10.heap.size w10 w10.drew := (Below.refl _ w10).drew
          refine (Make_any z.B z.g z.bi z.bn r2.G vn ⟨op, 0, a0, a1, (a2 : Nat), pn, qn, 0, 0, 0, ⟨#[]⟩⟩ w10.drew hg.drew (Nat.le_trans hB K10.out.size) HX.out).mono ?_
          intro e w11 hp
          have hq := make_post hbd (HI10.out.below hbd) (Nat.le_trans hB K10.out.size) hp
          clear hp hg
          rw [HF.out] at hq
          obtain ⟨rfl, a1', a2', a3'⟩ := hq
          have A1 := Aside0.mk a1'
          have A2 := Aside0.mk (K10.out.trans a2')
          have A3 := Aside0.mk (B10.out.trans a3')
          clear a1' a2' a3' hbd c0 s0 d0 d1 d2 d3 d4 d5 d6 d7 d8 d9 d10
          refine hK.out _ _ ?_
          clear hK K
          repeat (first
            | (refine' plan_pu _ (by rfl) (fun w' => ?_) ?_; rotate_left 1; (focus (go_simp; try (with_reducible rfl))); (try simp only [wrapi_0, wrapi_1, wrapi_2, wrapi_3, wrapi_4]); simp only [Act.put, List.setIfInBounds_toArray, List.set_cons_zero, List.set_cons_succ])
            | (refine' plan_off (by rfl) ?_; (try simp only [wrapi_0, wrapi_1, wrapi_2, wrapi_3, wrapi_4]); simp only [Act.put, List.setIfInBounds_toArray, List.set_cons_zero, List.set_cons_succ])
            | (refine' plan_offL (by rfl) ?_; (try simp only [wrapi_0, wrapi_1, wrapi_2, wrapi_3, wrapi_4]); simp only [Act.put, List.setIfInBounds_toArray, List.set_cons_zero, List.set_cons_succ])
            | (refine' plan_offE (by rfl) (by first | assumption | exact (by assumption)) ?_; (try simp only [wrapi_0, wrapi_1, wrapi_2, wrapi_3, wrapi_4]); simp only [Act.put, List.setIfInBounds_toArray, List.set_cons_zero, List.set_cons_succ])
            | (refine' plan_ld _ (by rfl) (fun w' hSw => ?_) ?_; rotate_left 1; (focus ((try dsimp only at hSw); skip; go_simp; try (with_reducible rfl))); (try simp only [wrapi_0, wrapi_1, wrapi_2, wrapi_3, wrapi_4]); simp only [Act.put, List.setIfInBounds_toArray, List.set_cons_zero, List.set_cons_succ]))
          refine plan_nil ?_
          go_wp2_with fail
          go_returns
          exact ⟨rfl, A1.out, A2.out, A3.out⟩
        · have har3 : ¬ arityV op = 3 := fun q => h3 (HAR.out.symm.trans q)
          have HA3 := Aside0.mk har3
          clear har3 HE3
          go_upto_region 18 with (fail)
          have HC10 := HC83
          have HI10 := HI83
          have K10 := K83
          have B10 := B83
          obtain ⟨w10, hw10⟩ : ∃ w', w83 = w' := ⟨_, rfl⟩
          rw [hw10] at HC10 HI10 K10 B10 ⊢
          clear y0
          have HX : Aside0 (Nd.Wf ⟨op, 0, a0, a1, 0, pn, qn, 0, 0, 0, ⟨#[]⟩⟩) := ⟨by
            constructor
            all_goals first
              | exact HOO.out
              | exact HPN.out
              | exact HQN.out
              | (unfold i64ok; simp only; omega)
              | (unfold u64ok; simp only; omega)
              | exact Nat.zero_le _⟩
          have HF : Aside0 (makeF ⟨op, 0, a0, a1, 0, pn, qn, 0, 0, 0, ⟨#[]⟩⟩ r2 = R) := ⟨by rw [← HSS.out, if_neg HA3.out]⟩
          have c0 := HI10.out.wk.cell 0 _ rfl
          have s0 := HI10.out.sc.scope.cell 0 _ rfl
          have d0 := HC10.out.cell 0 _ rfl
          have d1 := HC10.out.cell 1 _ rfl
          have d2 := HC10.out.cell 2 _ rfl
          have d3 := HC10.out.cell 3 _ rfl
          have d4 := HC10.out.cell 4 _ rfl
          have d5 := HC10.out.cell 5 _ rfl
          have d6 := HC10.out.cell 6 _ rfl
          have d7 := HC10.out.cell 7 _ rfl
          have d8 := HC10.out.cell 8 _ rfl
          have d9 := HC10.out.cell 9 _ rfl
          have d10 := HC10.out.cell 10 _ rfl
          refine wp_plan [(0, 0), (0, 1), (0, 2), (1, 3), (0, 4), (0, 5), (1, 6), (1, 7), (3, 8), (0, 9), (0, 10), (0, 11), (0, 12)] (fun w' => w' = _) (by kernel_rfl) (by kernel_rfl) (fun _ _ d _ _ h => by cases d <;> exact h) rfl ?_
          simp only [planOps, List.filterMap_cons, List.filterMap_nil, List.getElem?_toArray, List.getElem?_cons_zero, List.getElem?_cons_succ, Option.map_some]
          repeat (first
            | (refine' plan_pu _ (by rfl) (fun w' => ?_) ?_; rotate_left 1; (focus (go_simp; try (with_reducible rfl))); (try simp only [wrapi_0, wrapi_1, wrapi_2, wrapi_3, wrapi_4, wrapi_0]); simp only [Act.put, List.setIfInBounds_toArray, List.set_cons_zero, List.set_cons_succ])
            | (refine' plan_off (by rfl) ?_; (try simp only [wrapi_0, wrapi_1, wrapi_2, wrapi_3, wrapi_4, wrapi_0]); simp only [Act.put, List.setIfInBounds_toArray, List.set_cons_zero, List.set_cons_succ])
            | (refine' plan_offL (by rfl) ?_; (try simp only [wrapi_0, wrapi_1, wrapi_2, wrapi_3, wrapi_4, wrapi_0]); simp only [Act.put, List.setIfInBounds_toArray, List.set_cons_zero, List.set_cons_succ])
            | (refine' plan_ld _ (by rfl) (fun w' hSw => ?_) ?_; rotate_left 1; (focus (subst hSw; go_simp; try (with_reducible rfl))); (try simp only [wrapi_0, wrapi_1, wrapi_2, wrapi_3, wrapi_4, wrapi_0]); simp only [Act.put, List.setIfInBounds_toArray, List.set_cons_zero, List.set_cons_succ]))
          refine plan_fi (fun K hK => ?_)
          go_simp
          obtain ⟨vn, hg⟩ := HI10.out.gi
          have hbd : Below w10.heap.size w10 w10.drew := (Below.refl _ w10).drew
          refine (Make_any z.B z.g z.bi z.bn r2.G vn ⟨op, 0, a0, a1, 0, pn, qn, 0, 0, 0, ⟨#[]⟩⟩ w10.drew hg.drew (Nat.le_trans hB K10.out.size) HX.out).mono ?_
          intro e w11 hp
          have hq := make_post hbd (HI10.out.below hbd) (Nat.le_trans hB K10.out.size) hp
          clear hp hg
          rw [HF.out] at hq
          obtain ⟨rfl, a1', a2', a3'⟩ := hq
          have A1 := Aside0.mk a1'
          have A2 := Aside0.mk (K10.out.trans a2')
          have A3 := Aside0.mk (B10.out.trans a3')
          clear a1' a2' a3' hbd c0 s0 d0 d1 d2 d3 d4 d5 d6 d7 d8 d9 d10
          refine hK.out _ _ ?_
          clear hK K
          repeat (first
            | (refine' plan_pu _ (by rfl) (fun w' => ?_) ?_; rotate_left 1; (focus (go_simp; try (with_reducible rfl))); (try simp only [wrapi_0, wrapi_1, wrapi_2, wrapi_3, wrapi_4]); simp only [Act.put, List.setIfInBounds_toArray, List.set_cons_zero, List.set_cons_succ])
            | (refine' plan_off (by rfl) ?_; (try simp only [wrapi_0, wrapi_1, wrapi_2, wrapi_3, wrapi_4]); simp only [Act.put, List.setIfInBounds_toArray, List.set_cons_zero, List.set_cons_succ])
            | (refine' plan_offL (by rfl) ?_; (try simp only [wrapi_0, wrapi_1, wrapi_2, wrapi_3, wrapi_4]); simp only [Act.put, List.setIfInBounds_toArray, List.set_cons_zero, List.set_cons_succ])
            | (refine' plan_offE (by rfl) (by first | assumption | exact (by assumption)) ?_; (try simp only [wrapi_0, wrapi_1, wrapi_2, wrapi_3, wrapi_4]); simp only [Act.put, List.setIfInBounds_toArray, List.set_cons_zero, List.set_cons_succ])
            | (refine' plan_ld _ (by rfl) (fun w' hSw => ?_) ?_; rotate_left 1; (focus ((try dsimp only at hSw); skip; go_simp; try (with_reducible rfl))); (try simp only [wrapi_0, wrapi_1, wrapi_2, wrapi_3, wrapi_4]); simp only [Act.put, List.setIfInBounds_toArray, List.set_cons_zero, List.set_cons_succ]))
          refine plan_nil ?_
          go_wp2_with fail
          go_returns
          exact ⟨rfl, A1.out, A2.out, A3.out⟩
      · have hS3 : failF er r2 = R := by
          have := HR1.out
          unfold thenL at this
          rw [if_pos he] at this
          exact this
        have HS3 := Aside0.mk hS3
        have he2 : (er != 0) = true := by simpa using he
        clear hS3
        go_wp2_with fail
        go_returns
        rw [← HS3.out]
        exact ⟨rfl, G1.out, G2.out, G3.out⟩
    · rw [if_pos (.inr ⟨rfl, har⟩)] at hR
      have HR := Aside0.mk hR
      have hna : ((n : Int) != arityV op) = true := by simpa using har
      clear hR har
      go_wp2_with fail
      refine (HMA.out _).mono ?_
      rintro e w2 ⟨rfl, hB2⟩
      have HB2 := Aside0.mk (HB1.out.trans (hB2.mono HB1.out.size))
      have HC2 := Aside0.mk (HC1.out.below hB2)
      clear hB2 y0
      have y0 := HC2.out.cell 0 _ rfl
      go_wp2_with fail
      refine (Arity_any op _).mono ?_
      rintro e w2' ⟨rfl, rfl⟩
      go_wp2_with fail
      go_returns
      rw [← HR.out]
      exact RPost.new HH.out HB2.out hB 0 54
end
end Go.Proofs.YthhnhbpmpdminaaGreatDoor
