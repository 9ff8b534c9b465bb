/-
Several texts as one: Ral Rsn.
-/
import Derived.Test.YthhnhbpmpdminaaGreatDoorXN
import Derived.Test.YthhnhbpmpdminaaGreatDoorRpu
/-
read.worker: all, with term's contract at hand. Conditions: the reader in memory.
-/
namespace Go.Proofs.YthhnhbpmpdminaaGreatDoor
set_option maxRecDepth 4096
set_option maxHeartbeats 8000000
set_option linter.unusedSimpArgs false
set_option linter.unusedVariables false
set_option linter.unnecessarySimpa false
open Go.RowKit Go.Proofs.YthhnhbpmpdminaaGreatDoorW.PrintWords Go.Maps
section
variable (z : Zr) (w : World) (E : List Ent) (vl : Value) (cs : List Value) (defs : Int) (r : Rd)
def plV (p : Option Addr) (lim d : Nat) : Value := .agg #[.pointer p, .int .i64 (lim : Int), .int .i64 (d : Int)]
/-- What term is held to. -/
def TermC (rec : Tm) (d : Nat) : Prop := ∀ (w : World) (r : Rd) (x : Sx) (sc : List Value) (b : Bnd) (p : Option Addr) (lim : Nat), RI z w E vl cs defs r → z.B ≤ w.heap.size → RT w (NR z w) x sc → BL z w b p → BndOk b r.G → lim ≤ E.length → r.n ≤ 65536 →
  Calls Tryz.prog 75 #[.pointer (some ⟨z.wb, 0, none⟩), .agg sc.toArray, plV p lim d] w fun e w' => RPost z w E vl cs defs (rec x b lim r) e w'
theorem add_two (a : Addr) (i j : Nat) : (a.add i).add j = a.add (i + j) := by
  unfold Addr.add
  by_cases hi : i = 0
  · subst hi; simp
  · by_cases hj : j = 0
    · subst hj; simp
    · simp [hi, hj, Nat.add_assoc]
theorem RL_kid3 {w : World} {S : Nat → Prop} {A : Option Addr} {ks : List Sx} (h : RL w S ks A 0) (i : Nat) (x : Sx) (hi : ks[i]? = some x) : ∃ ad A' c', A = some ad ∧ S ad.block ∧
    RT w S x [.string x.word, .bool x.list, .slice A' x.kids.length c'] ∧
    w.cell? (ad.add (i * 3)) = some (.string x.word) ∧ w.cell? ⟨(ad.add (i * 3)).block, (ad.add (i * 3)).off + 1, none⟩ = some (.bool x.list) ∧ w.cell? ⟨(ad.add (i * 3)).block, (ad.add (i * 3)).off + 2, none⟩ = some (.slice A' x.kids.length c') := by
  obtain ⟨ad, cs, h1, h2, h3, h4⟩ := RL_get ks 0 h i x hi
  obtain ⟨A', c', rfl, h5, h6, h7, h8⟩ := RT_cells h4
  refine ⟨ad, A', c', h1, h2, h4, ?_, ?_, ?_⟩
  · have := h3 0 _ rfl; simpa using this
  · have := h3 1 _ rfl
    rw [show (⟨(ad.add (i * 3)).block, (ad.add (i * 3)).off + 1, none⟩ : Addr) = (ad.add (i * 3)).add 1 from rfl, add_two]; simpa using this
  · have := h3 2 _ rfl
    rw [show (⟨(ad.add (i * 3)).block, (ad.add (i * 3)).off + 2, none⟩ : Addr) = (ad.add (i * 3)).add 2 from rfl, add_two]; simpa using this
theorem all_any (rec : Tm) (d : Nat) (hd : d ≤ 900) (ht : TermC z E vl cs defs rec (d + 1)) (hr : TmOk E rec rec) (hmo : ∀ x b lim r, (rec x b lim r).1.2 = 0 → r.n + 1 ≤ (rec x b lim r).2.n) (l : List Sx) (A : Option Addr) (c : Nat) (b : Bnd) (p : Option Addr) (lim : Nat) (h : RI z w E vl cs defs r) (hB : z.B ≤ w.heap.size) (hl : RL w (NR z w) l A 0) (hb : BL z w b p) (hbo : BndOk b r.G) (hlim : lim ≤ E.length) (hn : r.n ≤ 65536) (hlen : l.length ≤ 9223372036854775807) :
    Calls Tryz.prog 201 #[.pointer (some ⟨z.wb, 0, none⟩), .slice A l.length c, plV p lim d] w fun e w' => ∃ v, e = .returned (.tuple #[v, .int .i64 (allF rec l b lim r).1.2]) ∧ RI z w' E vl cs defs (allF rec l b lim r).2 ∧ KR z w w' ∧ Below z.B w w' ∧
      ((allF rec l b lim r).1.2 = 0 → IB (w.heap.size + 1) w' (allF rec l b lim r).1.1 v) := by
  obtain ⟨R, hR⟩ : ∃ R, allF rec l b lim r = R := ⟨_, rfl⟩
  rw [hR]
  have HR : Aside0 (preL [] (seqF (fun x r => rec x b lim r) (l.drop 0) r) = R) := ⟨by rw [← hR]; simp [preL, allF]⟩
  have hb0 := (Below.refl _ w).alloc (Nat.le_refl _) (.cells #[.pointer p, .int .i64 (lim : Int), .int .i64 (d : Int)] 139)
  have hC := Cells.new w 139 [.pointer p, .int .i64 (lim : Int), .int .i64 (d : Int)]
  unfold plV
  go_enter Tryz.func201, Tryz.ntmps201
  go_upto_region 1 with (fail)
  obtain ⟨w0, hw0⟩ : ∃ w0, w.alloc (.cells #[.pointer p, .int .i64 (lim : Int), .int .i64 (d : Int)] 139) = w0 := ⟨_, rfl⟩
  have hC : Cells w0 w.heap.size 139 [.pointer p, .int .i64 (lim : Int), .int .i64 (d : Int)] := by rw [← hw0]; exact hC
  rw [hw0] at hb0 ⊢
  have hsz : w0.heap.size = w.heap.size + 1 := by rw [← hw0]; simp
  clear hw0
  have k0 : KR z w w0 := KR.of_below hb0
  have h0 := h.below hb0
  have hP : NR z w0 w.heap.size := NR.new hC (by decide) (fun q => by
      obtain ⟨vn, hg⟩ := h.gi
      have := hg.cells.lt; omega) (fun q => by
      obtain ⟨vn, hg⟩ := h.gi
      obtain ⟨D, hD, _⟩ := hg.ids
      have := hD.lt; omega) (fun q => by
      obtain ⟨vn, hg⟩ := h.gi
      obtain ⟨D, hD, _⟩ := hg.names
      have := hD.lt; omega) (fun q => by have := h.wk.lt; omega)
  have HC := Aside0.mk hC
  have HP := Aside0.mk hP
  have HK := Aside0.mk k0
  have HB0 := Aside0.mk hb0
  have HW := Aside0.mk h0
  have HRL := Aside0.mk (NR.trees k0 hl)
  have HBL := Aside0.mk (hb.next k0)
  have HT := Aside0.mk ht
  have HRR := Aside0.mk hr
  have HMO := Aside0.mk hmo
  have HBO := Aside0.mk hbo
  have hB0 : z.B ≤ w0.heap.size := Nat.le_trans hB hb0.size
  clear h hl hb ht hr hmo hbo hR hb0 hC k0 h0 hP
  go_wp2_with fail
  go_loopw [8, 15] (fun v8 v15 wr => ∃ (i : Nat) (m : List Nat) (r' : Rd), i ≤ l.length ∧ v15 = .int .i64 (i : Int) ∧ Aside0 (m.length = i ∧ m.length ≤ r'.n) ∧ Aside0 (IB (w.heap.size + 1) wr m v8) ∧ Aside0 (preL m (seqF (fun x r => rec x b lim r) (l.drop i) r') = R) ∧ Aside0 (RI z wr E vl cs defs r') ∧ Aside0 (KR z w0 wr) ∧ Aside0 (Below z.B w0 wr) ∧ Aside0 (Ext r.G r'.G) ∧ Aside0 (r'.n ≤ 65536)) (fun _ v15 _ => l.length - (intOf v15).toNat)
  case atStart => exact ⟨0, [], r, by omega, rfl, ⟨rfl, Nat.zero_le _⟩, ⟨IB.nil _ _⟩, HR, HW, ⟨KR.refl _⟩, ⟨Below.refl _ _⟩, ⟨.refl _⟩, ⟨hn⟩⟩
  case round =>
    obtain ⟨i, m, r', hj, rfl, HM, HL, HR', HW', HK', HB', HX', HN'⟩ := hrel
    by_cases hlt : i < l.length
    · have hlt' : (i : Int) < (l.length : Int) := by omega
      obtain ⟨x, hx⟩ : ∃ x, l[i]? = some x := ⟨_, List.getElem?_eq_getElem hlt⟩
      obtain ⟨ad, pa, pc, rfl, had, hRT, y0, y1, y2⟩ := RL_kid3 (NR.trees HK'.out HRL.out) i x hx
      have HX := Aside0.mk hx
      have HRT := Aside0.mk hRT
      clear hx hRT had
      go_upto_region 5 with (fail)
      have HCR := Aside0.mk (NR.cells HC.out HP.out HK'.out)
      have hx1 := Cells.new wr 49 [.string x.word, .bool x.list, .slice pa x.kids.length pc]
      have hc1 := HCR.out.alloc (.cells #[.string x.word, .bool x.list, .slice pa x.kids.length pc] 49)
      have hb1 := (Below.refl _ wr).alloc (Nat.le_refl _) (.cells #[.string x.word, .bool x.list, .slice pa x.kids.length pc] 49)
      obtain ⟨w1, hw1⟩ : ∃ w1, wr.alloc (.cells #[.string x.word, .bool x.list, .slice pa x.kids.length pc] 49) = w1 := ⟨_, rfl⟩
      have hx1 : Cells w1 wr.heap.size 49 [.string x.word, .bool x.list, .slice pa x.kids.length pc] := by rw [← hw1]; exact hx1
      rw [hw1] at hc1 hb1 ⊢
      clear hw1
      have HX1 := Aside0.mk hx1
      have HC1 := Aside0.mk hc1
      have HB1 := Aside0.mk hb1
      clear hx1 hc1 hb1 y0 y1 y2
      refine wp_plan [(0, 0), (1, 1), (1, 2), (2, 3), (3, 4), (0, 5), (0, 6), (0, 7), (0, 8), (0, 9)] (fun w' => Cells w' w.heap.size 139 [.pointer p, .int .i64 (lim : Int), .int .i64 (d : Int)] ∧ Cells w' wr.heap.size 49 [.string x.word, .bool x.list, .slice pa x.kids.length pc]) (by kernel_rfl) (by kernel_rfl) (fun _ _ d _ _ h => by cases d <;> exact h) ⟨HC1.out.drew, HX1.out.drew⟩ ?_
      simp only [planOps, List.filterMap_cons, List.filterMap_nil, List.getElem?_toArray, List.getElem?_cons_zero, List.getElem?_cons_succ, Option.map_some]
      repeat (first
        | (refine' plan_pu _ (by rfl) (fun w' => ?_) ?_; rotate_left 1; (focus (go_simp; try (with_reducible rfl))); (try simp only [wrapi_0, wrapi_1, wrapi_2, wrapi_3, wrapi_4]); simp only [Act.put, List.setIfInBounds_toArray, List.set_cons_zero, List.set_cons_succ])
        | (refine' plan_off (by rfl) ?_; (try simp only [wrapi_0, wrapi_1, wrapi_2, wrapi_3, wrapi_4]); simp only [Act.put, List.setIfInBounds_toArray, List.set_cons_zero, List.set_cons_succ])
        | (refine' plan_offL (by rfl) ?_; (try simp only [wrapi_0, wrapi_1, wrapi_2, wrapi_3, wrapi_4]); simp only [Act.put, List.setIfInBounds_toArray, List.set_cons_zero, List.set_cons_succ])
        | (refine' plan_offE (by rfl) (by first | assumption | exact (by assumption)) ?_; (try simp only [wrapi_0, wrapi_1, wrapi_2, wrapi_3, wrapi_4]); simp only [Act.put, List.setIfInBounds_toArray, List.set_cons_zero, List.set_cons_succ])
        | (refine' plan_ld _ (by rfl) (fun w' hSw => ?_) ?_; rotate_left 1; (focus ((try dsimp only at hSw); have c0 := hSw.1.cell 0 _ rfl; have c1 := hSw.1.cell 1 _ rfl; have c2 := hSw.1.cell 2 _ rfl; have x0 := hSw.2.cell 0 _ rfl; have x1 := hSw.2.cell 1 _ rfl; have x2 := hSw.2.cell 2 _ rfl; go_simp; try (with_reducible rfl))); (try simp only [wrapi_0, wrapi_1, wrapi_2, wrapi_3, wrapi_4]); simp only [Act.put, List.setIfInBounds_toArray, List.set_cons_zero, List.set_cons_succ]))
      refine plan_ef (fun K hK => ?_)
      go_simp
      refine (in_any p lim d (by omega) _).mono ?_
      rintro e w2 ⟨rfl, hB'⟩
      have HB2 := Aside0.mk (HB1.out.drew.trans (hB'.mono HB1.out.size))
      have HC2 := Aside0.mk (HC1.out.drew.below hB')
      have HX2 := Aside0.mk (HX1.out.drew.below hB')
      clear hB'
      refine hK.out _ _ (⟨HC2.out, HX2.out⟩) (fun _ => ?_)
      clear hK K
      try (try simp only [wrapi_0, wrapi_1, wrapi_2, wrapi_3, wrapi_4]); simp only [Act.put, List.setIfInBounds_toArray, List.set_cons_zero, List.set_cons_succ]
      have hk2 : KR z wr w2 := KR.of_below HB2.out
      have hz2 : w0.heap.size ≤ w2.heap.size := Nat.le_trans HK'.out.size HB2.out.size
      have hc := HT.out w2 r' x _ b p lim (HW'.out.below HB2.out) (Nat.le_trans hB0 hz2) (NR.tree hk2 HRT.out) (BL.next (HK'.out.trans hk2) HBL.out) (HBO.out.ext HX'.out) hlim HN'.out
      unfold plV at hc
      rw [show ((d + 1 : Nat) : Int) = (d : Int) + 1 from Int.natCast_succ d] at hc
      have hag := HRR.out x b lim lim r'.G (Nat.le_refl _) (HBO.out.ext HX'.out) HW'.out.dec r' (.refl _) HN'.out
      obtain ⟨⟨⟨id, er⟩, r2⟩, hrr⟩ : ∃ rr, rec x b lim r' = rr := ⟨_, rfl⟩
      rw [hrr] at hag hc
      have HAG := Aside0.mk hag
      have HF := Aside0.mk hrr
      have HC := Aside0.mk hc
      have HK2 := Aside0.mk hk2
      clear hag hrr hc hk2
      refine plan_fi (fun K hK => ?_)
      go_simp
      refine HC.out.mono ?_
      rintro e w3 ⟨rfl, g1, g2, g3⟩
      dsimp only at g1 ⊢
      have G1 := Aside0.mk g1
      have G2 := Aside0.mk (HK'.out.trans (HK2.out.trans g2))
      have GL := Aside0.mk (HL.out.move HW'.out (HK2.out.trans g2))
      have G3 := Aside0.mk (HB'.out.trans ((HB2.out.mono (Nat.le_trans hB0 HK'.out.size)).trans g3))
      clear g1 g2 g3
      refine hK.out _ _ ?_
      clear hK K
      have hS := HR'.out
      rw [List.drop_eq_getElem_cons hlt, (List.getElem?_eq_some_iff.1 HX.out).2] at hS
      by_cases he : er = 0
      · subst he
        rw [seqF_ok (f := fun x r => rec x b lim r) (x := x) HF.out] at hS
        have HS := Aside0.mk hS
        clear hS HR'
        repeat (first
          | (refine' plan_pu _ (by rfl) (fun w' => ?_) ?_; rotate_left 1; (focus (go_simp; try (with_reducible rfl))); (try simp only [wrapi_0, wrapi_1, wrapi_2, wrapi_3, wrapi_4]); simp only [Act.put, List.setIfInBounds_toArray, List.set_cons_zero, List.set_cons_succ])
          | (refine' plan_off (by rfl) ?_; (try simp only [wrapi_0, wrapi_1, wrapi_2, wrapi_3, wrapi_4]); simp only [Act.put, List.setIfInBounds_toArray, List.set_cons_zero, List.set_cons_succ])
          | (refine' plan_offL (by rfl) ?_; (try simp only [wrapi_0, wrapi_1, wrapi_2, wrapi_3, wrapi_4]); simp only [Act.put, List.setIfInBounds_toArray, List.set_cons_zero, List.set_cons_succ])
          | (refine' plan_offE (by rfl) (by first | assumption | exact (by assumption)) ?_; (try simp only [wrapi_0, wrapi_1, wrapi_2, wrapi_3, wrapi_4]); simp only [Act.put, List.setIfInBounds_toArray, List.set_cons_zero, List.set_cons_succ])
          | (refine' plan_ld _ (by rfl) (fun w' hSw => ?_) ?_; rotate_left 1; (focus ((try dsimp only at hSw); skip; go_simp; try (with_reducible rfl))); (try simp only [wrapi_0, wrapi_1, wrapi_2, wrapi_3, wrapi_4]); simp only [Act.put, List.setIfInBounds_toArray, List.set_cons_zero, List.set_cons_succ]))
        refine plan_nil ?_
        have hz : w.heap.size + 1 ≤ w3.heap.size := by rw [← hsz]; exact G2.out.size
        have hml : m.length ≤ 65536 := Nat.le_trans HM.out.2 HN'.out
        have hmn := HMO.out x b lim r' (by rw [HF.out])
        rw [HF.out] at hmn
        have HMN := Aside0.mk hmn
        clear hmn
        go_wp2_with (at_builtin; (refine apl_at (w0 := w3) _ (w.heap.size + 1) (.tmp 30) (.tmp 32) 61 3 (.int .i64 0) 1 8 u8 m.length (idsN m) [.int .i64 (id : Int)] ⟨w3.heap.size, 0, none⟩ 1 rfl rfl (news_one (Cells.new w3 _ _)) Tryz.underlying61 Tryz.infoIntI rfl (by decide) (by decide) (by rfl) (by rfl) rfl (by simp [Value.oneCell']) (GL.out.own.alloc _) ((Below.refl _ _).alloc hz _) (Nat.le_trans hz (by simp)) (by omega) ?_; intro v1 w4 hown1 hB3 hg1 hat1; have HO1 := Aside0.mk hown1; have HB3 := Aside0.mk hB3; have HG1 := Aside0.mk hg1; clear hown1 hB3 hg1 hat1))
        have hk3 : KR z w0 w4 := G2.out.grow (by rw [hsz]; exact HB3.out)
        have hb3 : Below z.B w0 w4 := G3.out.trans (HB3.out.mono (Nat.le_trans hB (Nat.le_succ _)))
        have hid : id ≤ 1000000 := by have := (HAG.out.2.2 rfl).2.2.1; have := G1.out.small; dsimp only at *; omega
        refine ⟨⟨i + 1, m ++ [id], r2, by omega, by simp, ⟨by rw [List.length_append, HM.out.1]; rfl, by have := HMN.out; have := HM.out.2; simp only [List.length_append, List.length_singleton]; dsimp only at *; omega⟩, ⟨GL.out.push hid HO1.out⟩, HS, ⟨?_⟩, ⟨hk3⟩, ⟨hb3⟩, ⟨HX'.out.trans HAG.out.1⟩, ⟨(HAG.out.2.2 rfl).1⟩⟩, by simp only [intOf]; omega⟩
        exact (G1.out.below ((Below.refl _ w3).alloc (Nat.le_refl _) _)).grown (GL.out.own.alloc _) HG1.out (HW.out.sc.next hk3)
      · have hq : ((m, er), r2) = R := by
          rw [← hS, seqF, if_pos (by rw [HF.out]; exact he), HF.out]
          simp [preL]
        have HQ := Aside0.mk hq
        clear hq hS
        repeat (first
          | (refine' plan_pu _ (by rfl) (fun w' => ?_) ?_; rotate_left 1; (focus (go_simp; try (with_reducible rfl))); (try simp only [wrapi_0, wrapi_1, wrapi_2, wrapi_3, wrapi_4]); simp only [Act.put, List.setIfInBounds_toArray, List.set_cons_zero, List.set_cons_succ])
          | (refine' plan_off (by rfl) ?_; (try simp only [wrapi_0, wrapi_1, wrapi_2, wrapi_3, wrapi_4]); simp only [Act.put, List.setIfInBounds_toArray, List.set_cons_zero, List.set_cons_succ])
          | (refine' plan_offL (by rfl) ?_; (try simp only [wrapi_0, wrapi_1, wrapi_2, wrapi_3, wrapi_4]); simp only [Act.put, List.setIfInBounds_toArray, List.set_cons_zero, List.set_cons_succ])
          | (refine' plan_offE (by rfl) (by first | assumption | exact (by assumption)) ?_; (try simp only [wrapi_0, wrapi_1, wrapi_2, wrapi_3, wrapi_4]); simp only [Act.put, List.setIfInBounds_toArray, List.set_cons_zero, List.set_cons_succ])
          | (refine' plan_ld _ (by rfl) (fun w' hSw => ?_) ?_; rotate_left 1; (focus ((try dsimp only at hSw); skip; go_simp; try (with_reducible rfl))); (try simp only [wrapi_0, wrapi_1, wrapi_2, wrapi_3, wrapi_4]); simp only [Act.put, List.setIfInBounds_toArray, List.set_cons_zero, List.set_cons_succ]))
        refine plan_nil ?_
        go_wp2_with fail
        go_returns
        rw [← HQ.out]
        exact ⟨_, rfl, G1.out, HK.out.trans G2.out, (HB0.out.mono hB).trans G3.out, fun q => absurd q he⟩
    · obtain rfl : i = l.length := by omega
      have hS := HR'.out
      rw [List.drop_of_length_le (by simp), seqF_nil] at hS
      have HS := Aside0.mk hS
      clear hS HR'
      go_wp2_with fail
      go_returns
      rw [← HS.out]
      exact ⟨_, rfl, HW'.out, HK.out.trans HK'.out, (HB0.out.mono hB).trans HB'.out, fun _ => by simpa [preL] using HL.out⟩
end
end Go.Proofs.YthhnhbpmpdminaaGreatDoor
/-
read.worker: seen. Conditions: the reader in memory.
-/
namespace Go.Proofs.YthhnhbpmpdminaaGreatDoor
set_option maxRecDepth 4096
set_option maxHeartbeats 8000000
set_option linter.unusedSimpArgs false
set_option linter.unusedVariables false
set_option linter.unnecessarySimpa false
open Go.RowKit Go.Proofs.YthhnhbpmpdminaaGreatDoorW.PrintWords Go.Maps
section
variable (z : Zr) (w : World) (E : List Ent) (vl : Value) (cs : List Value) (defs : Int) (r : Rd)
def ent0 : List Value := [.string ⟨#[]⟩, .bool false, .slice none 0 0, .int .i64 0, .string ⟨#[]⟩, .bool false, .slice none 0 0]
theorem exi_lt (s : ByteArray) : ∀ (E : List Ent) (k : Nat), exi s E = k + 1 → k < E.length
  | [], k, h => by cases h
  | e :: t, k, h => by
    unfold exi at h
    split at h
    · injection h with h; subst h; simp
    · split at h
      · cases h
      · next q hq =>
        have := exi_lt s t _ hq
        simp only [List.length_cons]; omega
theorem SI.ent {z : Zr} {w : World} {E : List Ent} {vl : Value} {cs : List Value} {defs : Int} (h : SI z w E vl cs defs) {i : Nat} (hi : i < E.length) : ∃ b c, vl = .slice (some ⟨b, 0, none⟩) E.length c ∧ ∀ q u, ((cs.drop (i * 7)).take 7)[q]? = some u → w.cell? ⟨b, i * 7 + q, none⟩ = some u := by
  rcases h.row.2 with ⟨e, h0⟩ | ⟨b, cap, cur, e, _⟩
  · omega
  · refine ⟨b, cap, e, fun q u hu => ?_⟩
    have hq : q < 7 := by
      have := (List.getElem?_eq_some_iff.1 hu).1
      simp only [List.length_take] at this; omega
    have hrow := h.row
    rw [e] at hrow
    have := hrow.cells (g := b) rfl (i * 7 + q) u (by
      rw [List.getElem?_take_of_lt hq, List.getElem?_drop] at hu
      exact hu)
    rw [add0] at this
    exact this
theorem seen_any (s : ByteArray) (hsz : s.size ≤ maxLen) (p : Option Addr) (lim depth : Nat) (hlim : lim ≤ 1000000) (h : RI z w E vl cs defs r) :
    Calls Tryz.prog 147 #[.pointer (some ⟨z.wb, 0, none⟩), .string s, .agg #[.pointer p, .int .i64 (lim : Int), .int .i64 (depth : Int)]] w fun e w' => Below w.heap.size w w' ∧
      (match seenV E lim s with
      | none => e = .returned (.tuple #[.agg ent0.toArray, .int .i64 0, .bool false])
      | some (i, en) => ∃ ec, EntOk z w en ec ∧ e = .returned (.tuple #[.agg ec.toArray, .int .i64 (i : Int), .bool true])) := by
  obtain ⟨x, hx⟩ : ∃ x, exi s E = x := ⟨_, rfl⟩
  have hb := ((Below.refl _ w).alloc (Nat.le_refl _) (.cells #[.pointer p, .int .i64 (lim : Int), .int .i64 (depth : Int)] 139)).alloc (by simp) (.cells ent0.toArray 129)
  have hC := (Cells.new w 139 [.pointer p, .int .i64 (lim : Int), .int .i64 (depth : Int)]).alloc (.cells ent0.toArray 129)
  have hF : ∀ l : List Value, Cells ((w.alloc (.cells #[.pointer p, .int .i64 (lim : Int), .int .i64 (depth : Int)] 139)).alloc (.cells l.toArray 129)) (w.heap.size + 1) 129 l := fun l => by
    have := Cells.new (w.alloc (.cells #[.pointer p, .int .i64 (lim : Int), .int .i64 (depth : Int)] 139)) 129 l
    simpa using this
  have HB := Aside0.mk hb
  have HC := Aside0.mk hC
  have HF := Aside0.mk hF
  have HI := Aside0.mk (h.below hb)
  have HX := Aside0.mk hx
  have hkey := WideMaps.keyOf_string_mk (P := Tryz.prog) Tryz.underlying9 hsz
  have HK := Aside0.mk hkey
  have HH := Aside0.mk h
  have HLE := Aside0.mk h.sc.len
  unfold ent0 at HB HC HI
  clear h hb hC hx hF hkey
  cases x with
  | zero =>
    have HV : Aside0 (seenV E lim s = none) := ⟨by unfold seenV; rw [HX.out]⟩
    rw [HV.out]
    dsimp only
    go_enter Tryz.func147, Tryz.ntmps147
    go_upto_region 1 with (fail)
    have c0 := HI.out.wk.cell 0 _ rfl
    have s2 := HI.out.sc.scope.cell 2 _ rfl
    have b1 := HC.out.cell 1 _ rfl
    obtain ⟨D, hD, hN⟩ := HI.out.sc.at_
    have HN := Aside0.mk (hN s hsz)
    have HD := Aside0.mk hD
    clear hD hN
    go_upto_region 2 with (at_lookup; refine wpList_lookup_own_int _ rfl _ _ 121 rfl 9 3 .i64 strLaw Tryz.underlying121 Tryz.underlying3 (Tryz.zeroInt _) z.ab E.length D rfl HD.out _ _ rfl HK.out ?_; intro c hat hwc)
    have hc : c = (exi s E : Int) := by
      have := hat.symm.trans HN.out
      simpa using this
    clear hat hwc
    rw [HX.out] at hc
    subst hc
    go_wp2_with fail
    exact bodyPost_ret (results_cell_tmp2 rfl _ _ _ 129 #[.string ⟨#[]⟩, .bool false, .slice none 0 0, .int .i64 0, .string ⟨#[]⟩, .bool false, .slice none 0 0] (0, 0) _ (.int .i64 0) (.bool false) rfl rfl rfl (HF.out _) Tryz.underlying129 rfl (by kernel_rfl)) rfl ⟨HB.out, rfl⟩
  | succ k =>
    have HKL := Aside0.mk (exi_lt s E k HX.out)
    by_cases hl : lim < k + 1
    · have HV : Aside0 (seenV E lim s = none) := ⟨by unfold seenV; rw [HX.out]; simp only; rw [if_pos hl]⟩
      rw [HV.out]
      dsimp only
      have hl1 : (lim : Int) < (k : Int) + 1 := by omega
      have hl2 : ¬ ((k : Int) + 1 = 0) := by omega
      clear hl
      go_enter Tryz.func147, Tryz.ntmps147
      go_upto_region 1 with (fail)
      have c0 := HI.out.wk.cell 0 _ rfl
      have s2 := HI.out.sc.scope.cell 2 _ rfl
      have b1 := HC.out.cell 1 _ rfl
      obtain ⟨D, hD, hN⟩ := HI.out.sc.at_
      have HN := Aside0.mk (hN s hsz)
      have HD := Aside0.mk hD
      clear hD hN
      go_upto_region 2 with (at_lookup; refine wpList_lookup_own_int _ rfl _ _ 121 rfl 9 3 .i64 strLaw Tryz.underlying121 Tryz.underlying3 (Tryz.zeroInt _) z.ab E.length D rfl HD.out _ _ rfl HK.out ?_; intro c hat hwc)
      have hc : c = (exi s E : Int) := by
        have := hat.symm.trans HN.out
        simpa using this
      clear hat hwc
      rw [HX.out] at hc
      rw [Int.natCast_succ] at hc
      subst hc
      go_wp2_with fail
      exact bodyPost_ret (results_cell_tmp2 rfl _ _ _ 129 #[.string ⟨#[]⟩, .bool false, .slice none 0 0, .int .i64 0, .string ⟨#[]⟩, .bool false, .slice none 0 0] (0, 0) _ (.int .i64 0) (.bool false) rfl rfl rfl (HF.out _) Tryz.underlying129 rfl (by kernel_rfl)) rfl ⟨HB.out, rfl⟩
    · obtain ⟨en, hen⟩ : ∃ en, E[k]? = some en := ⟨_, List.getElem?_eq_getElem HKL.out⟩
      have HV : Aside0 (seenV E lim s = some (k + 1, en)) := ⟨by unfold seenV; rw [HX.out]; simp only; rw [if_neg hl, hen]; rfl⟩
      rw [HV.out]
      dsimp only
      have hl1 : ¬ (lim : Int) < (k : Int) + 1 := by omega
      have hl2 : ¬ ((k : Int) + 1 = 0) := by omega
      obtain ⟨bl, cl, rfl, hcell⟩ := HI.out.sc.ent HKL.out
      have hEnt := HH.out.sc.each k en hen
      obtain ⟨ec, hec⟩ : ∃ ec, (cs.drop (k * 7)).take 7 = ec := ⟨_, rfl⟩
      rw [hec] at hcell hEnt
      have HE := Aside0.mk hEnt
      obtain ⟨pa, pc, ba, bc, rfl, _⟩ := hEnt
      have y0 := hcell 0 _ rfl
      have y1 := hcell 1 _ rfl
      have y2 := hcell 2 _ rfl
      have y3 := hcell 3 _ rfl
      have y4 := hcell 4 _ rfl
      have y5 := hcell 5 _ rfl
      have y6 := hcell 6 _ rfl
      simp only [Nat.add_zero] at y0
      have hw : wrap64 ((k : Int) + 1 - 1) = (k : Int) := by have := HLE.out; have := HKL.out; unfold wrap64; omega
      have h3 : (k : Int) < (E.length : Int) := by have := HKL.out; omega
      have s1 := HI.out.sc.scope.cell 1 _ rfl
      clear hl hcell hec hen
      go_enter Tryz.func147, Tryz.ntmps147
      go_upto_region 1 with (fail)
      have c0 := HI.out.wk.cell 0 _ rfl
      have s2 := HI.out.sc.scope.cell 2 _ rfl
      have b1 := HC.out.cell 1 _ rfl
      obtain ⟨D, hD, hN⟩ := HI.out.sc.at_
      have HN := Aside0.mk (hN s hsz)
      have HD := Aside0.mk hD
      clear hD hN
      go_upto_region 2 with (at_lookup; refine wpList_lookup_own_int _ rfl _ _ 121 rfl 9 3 .i64 strLaw Tryz.underlying121 Tryz.underlying3 (Tryz.zeroInt _) z.ab E.length D rfl HD.out _ _ rfl HK.out ?_; intro c hat hwc)
      have hc : c = (exi s E : Int) := by
        have := hat.symm.trans HN.out
        simpa using this
      clear hat hwc
      rw [HX.out] at hc
      rw [Int.natCast_succ] at hc
      subst hc
      go_wp2_with fail
      exact bodyPost_ret (results_cell_tmp2 rfl _ _ _ 129 #[.string en.name, .bool en.defined, .slice pa en.params.length pc, .int .i64 en.sort, .string en.body.word, .bool en.body.list, .slice ba en.body.kids.length bc] (0, 0) _ (.int .i64 ((k : Int) + 1)) (.bool true) rfl rfl rfl (HF.out _) Tryz.underlying129 rfl (by kernel_rfl)) rfl ⟨((Below.refl _ w).alloc (Nat.le_refl _) _).alloc (by simp) _, _, HE.out, rfl⟩
end
end Go.Proofs.YthhnhbpmpdminaaGreatDoor
