/-
read.worker: numbered, of term. Conditions: the reader in memory.
-/
import Derived.Test.YthhnhbpmpdminaaGreatDoorRoq
import Derived.Test.YthhnhbpmpdminaaGreatDoorRnu
namespace Go.Proofs.YthhnhbpmpdminaaGreatDoor
set_option maxRecDepth 4096
set_option maxHeartbeats 8000000
set_option linter.unusedSimpArgs false
set_option linter.unusedVariables false
set_option linter.unnecessarySimpa false
open Go.RowKit Go.Proofs.YthhnhbpmpdminaaGreatDoorW.PrintWords Go.Maps PReadTwice
theorem RL_tl {w : World} {S : Nat → Prop} {k : Sx} {r : List Sx} {A : Option Addr} (h : RL w S (k :: r) A 0) : ∃ ad, A = some ad ∧ RL w S r (some (ad.add 3)) 0 := by
  obtain ⟨ad, cs, rfl, h1, h2, h3⟩ := RL_get _ 0 h 0 k rfl
  refine ⟨ad, rfl, RL_of r 0 fun i x hx => ?_⟩
  obtain ⟨ad', cs', e, g1, g2, g3⟩ := RL_get _ 0 h (i + 1) x (by simpa using hx)
  cases e
  refine ⟨_, cs', rfl, by rw [add_block]; exact g1, fun q u hu => ?_, g3⟩
  rw [add_two, show 3 + ((0 + i) * 3 + q) = (0 + (i + 1)) * 3 + q by omega]
  exact g2 q u hu
theorem add_plain (b o k : Nat) : (⟨b, o, none⟩ : Addr).add k = ⟨b, o + k, none⟩ := by
  unfold Addr.add
  split
  · rename_i h; subst h; rfl
  · rfl
theorem NR.lt {z : Zr} {w : World} {x : Sx} {cs : List Value} (h : RT w (NR z w) x cs) : RT w (fun k => k < w.heap.size) x cs := RT_move (fun _ _ => rfl) (fun _ hk => hk.1) x cs h
theorem Numbers_any (op : Int) (W : World) : Calls Tryz.prog 154 #[.int .i64 op] W fun e W' => e = .returned (.int .i64 (numbersV op : Int)) ∧ Below W.heap.size W W' := by
  have hf : words_Numbers.f op = some (numbersV op : Int) := by
    unfold words_Numbers.f numbersV
    repeat' split
    all_goals first
      | rfl
      | omega
  refine (words_Numbers.calls _ _ W hf).mono ?_
  rintro e w' ⟨rfl, hd⟩
  exact ⟨rfl, hd.below⟩
theorem numbersV_le (op : Int) : numbersV op ≤ 2 := by
  unfold numbersV
  repeat' split
  all_goals omega
theorem numO_small {l : List UInt8} {n : Nat} (h : numO 9 l = some n) : i64ok (n : Int) := by
  unfold numO at h
  split at h
  · rename_i hc
    have := Lib.decNat_small (l := l) (by omega) h
    unfold i64ok; omega
  · cases h
theorem opV_ok (l : List UInt8) : i64ok (opV l) := by
  unfold opV
  cases h : opTab.find? (fun p => l == p.1) with
  | none => unfold i64ok; simp
  | some p =>
    have hm := List.mem_of_find?_eq_some h
    have hall : ∀ p ∈ opTab, i64ok p.2 := by unfold i64ok; decide
    exact hall p hm
section
variable (z : Zr) (w : World) (E : List Ent) (vl : Value) (cs : List Value) (defs : Int) (r : Rd)
theorem numbered_any (rec : Tm) (d : Nat) (hd : d ≤ 900) (ht : TermC z E vl cs defs rec (d + 1)) (hr : TmOk E rec rec) (hmo : ∀ x b lim r, (rec x b lim r).1.2 = 0 → r.n + 1 ≤ (rec x b lim r).2.n)
    (hs : List Sx) (HA : Option Addr) (hc : Nat) (hrl : RL w (NR z w) hs HA 0) (hhc : hs.length ≤ hc) (hhc2 : hc ≤ 9223372036854775807) (l : List Sx) (A : Option Addr) (c : Nat) (b : Bnd) (p : Option Addr) (lim : Nat) (h : RI z w E vl cs defs r) (hB : z.B ≤ w.heap.size) (hl : RL w (NR z w) l A 0) (hlc : l.length ≤ c) (hcc : c ≤ 9223372036854775807) (hb : BL z w b p) (hbo : BndOk b r.G) (hlim : lim ≤ E.length) (hn : r.n ≤ 65536) :
    Calls Tryz.prog 150 #[.pointer (some ⟨z.wb, 0, none⟩), .slice HA hs.length hc, .slice A l.length c, plV p lim d] w fun e w' => RPost z w E vl cs defs (numberedF rec hs l b lim r) e w' := by
  obtain ⟨R, hR⟩ : ∃ R, numberedF rec hs l b lim r = R := ⟨_, rfl⟩
  rw [hR]
  unfold numberedF at hR
  unfold plV
  have hb0 := (Below.refl _ w).alloc (Nat.le_refl _) (.cells #[.pointer p, .int .i64 (lim : Int), .int .i64 (d : Int)] 139)
  have hp0 := Cells.new w 139 [.pointer p, .int .i64 (lim : Int), .int .i64 (d : Int)]
  go_enter Tryz.func150, Tryz.ntmps150
  go_upto_region 1 with (fail)
  obtain ⟨w0, hw0⟩ : ∃ w0, w.alloc (.cells #[.pointer p, .int .i64 (lim : Int), .int .i64 (d : Int)] 139) = w0 := ⟨_, rfl⟩
  have hp0 : Cells w0 w.heap.size 139 [.pointer p, .int .i64 (lim : Int), .int .i64 (d : Int)] := by rw [← hw0]; exact hp0
  rw [hw0] at hb0 ⊢
  clear hw0
  have HB0 := Aside0.mk hb0
  have HP0 := Aside0.mk hp0
  have HH := Aside0.mk h
  have HT := Aside0.mk ht
  have HRR := Aside0.mk hr
  have HMO := Aside0.mk hmo
  have HBL := Aside0.mk hb
  have HRL := Aside0.mk hl
  have HBO := Aside0.mk hbo
  have HLC := Aside0.mk hlc
  have HHC := Aside0.mk hhc
  have HRH := Aside0.mk (NR.trees (KR.of_below hb0) hrl)
  clear h ht hr hmo hb hl hbo hp0 hb0 hlc hrl
  by_cases h3 : hs.length < 3
  · have hR2 : failF 54 r = R := by
      match hs, h3, hR with
      | [], _, hR => exact hR
      | [_], _, hR => exact hR
      | [_, _], _, hR => rw [← hR]; simp
      | _ :: _ :: _ :: _, h3, _ => simp at h3; omega
    have h3' : (hs.length : Int) < 3 := by omega
    have HR := Aside0.mk hR2
    clear hR hR2 h3 HRH
    go_wp2_with fail
    go_returns
    rw [← HR.out]
    exact RPost.new HH.out HB0.out hB 0 54
  · obtain ⟨a, o, t, rfl⟩ : ∃ a o t, hs = a :: o :: t := by
      match hs, h3 with
      | [], h3 => simp at h3
      | [_], h3 => simp at h3
      | a :: o :: t, _ => exact ⟨a, o, t, rfl⟩
    obtain ⟨m, hm⟩ : ∃ m, t.length = m + 1 := ⟨t.length - 1, by simp at h3; omega⟩
    have hlen : (a :: o :: t).length = m + 3 := by simp [hm]
    have htn : t ≠ [] := fun q => by rw [q] at hm; simp at hm
    simp only [if_neg htn, htn, false_or] at hR
    rw [hlen] at HHC ⊢
    obtain ⟨ad, a1, c1, rfl, had, hrta, x0, x1, x2⟩ := RL_kid3 HRH.out 0 a rfl
    obtain ⟨ad', a2, c2, hq, _, hrto, y0, y1, y2⟩ := RL_kid3 HRH.out 1 o rfl
    cases hq
    obtain ⟨ad1, e1, hrl1⟩ := RL_tl HRH.out
    cases e1
    obtain ⟨ad2, e2, hrl2⟩ := RL_tl hrl1
    cases e2
    rw [add_two] at hrl2
    have HRT := Aside0.mk hrl2
    have hwz : o.word.size ≤ 9223372036854775807 := by obtain ⟨_, _, _, _, _, q, _⟩ := RT_cells hrto; exact q
    have hrta := Aside0.mk (NR.lt hrta)
    have HHM := Aside0.mk hm
    rw [Nat.zero_mul] at x0 x1 x2
    have hx0 : ad.add 0 = ad := by unfold Addr.add; simp
    rw [hx0] at x0 x1 x2
    rw [Nat.one_mul] at y0 y1 y2
    clear hrto h3 hlen htn hrl1 hrl2 hx0 HRH hm
    go_wp2_with fail
    refine (rdword_any a _ ⟨#[95]⟩ w0 hrta.out).mono ?_
    rintro e w1 ⟨rfl, hB1⟩
    obtain ⟨wa, hwa⟩ : ∃ x, isW a [95] = x := ⟨_, rfl⟩
    have hwa2 : isW a (⟨#[95]⟩ : ByteArray).data.toList = wa := hwa
    rw [hwa2]
    rw [hwa] at hR
    have k1 : KR z w0 w1 := KR.of_below hB1
    have HB1 := Aside0.mk (HB0.out.trans (hB1.mono HB0.out.size))
    have HP1 := Aside0.mk (HP0.out.below hB1)
    have HRT1 := Aside0.mk (NR.trees k1 HRT.out)
    have v0 := NR.cell (by rw [add_block]; exact had) k1 y0
    have v1 := NR.cell (by show NR z w0 (ad.add 3).block; rw [add_block]; exact had) k1 y1
    have v2 := NR.cell (by show NR z w0 (ad.add 3).block; rw [add_block]; exact had) k1 y2
    have HAD := Aside0.mk (had.next k1)
    have e3 : ad.add 3 = ⟨ad.block, ad.off + 3, none⟩ := by unfold Addr.add; simp
    rw [e3] at v0 v1 v2
    dsimp only at v1 v2
    clear e3 hwa hwa2 hB1 k1 x0 x1 x2 y0 y1 y2 hrta HRT HP0 had
    cases wa with
    | false =>
      rw [if_pos (.inl rfl)] at hR
      have HR := Aside0.mk hR
      clear hR
      go_wp2_with fail
      go_returns
      rw [← HR.out]
      exact RPost.new HH.out HB1.out hB 0 54
    | true =>
      simp only [reduceCtorEq, false_or, Bool.true_eq_false] at hR
      cases hol : o.list with
      | true =>
        rw [if_pos hol] at hR
        have HR := Aside0.mk hR
        rw [hol] at v1
        clear hR hol
        go_wp2_with fail
        go_returns
        rw [← HR.out]
        exact RPost.new HH.out HB1.out hB 0 54
      | false =>
        rw [if_neg (by simp [hol])] at hR
        rw [hol] at v1
        obtain ⟨op, hop⟩ : ∃ x, opV o.word.data.toList = x := ⟨_, rfl⟩
        have hopk : i64ok op := by rw [← hop]; exact opV_ok _
        have hOp := fun W => Op_any o.word hwz W
        rw [hop] at hR hOp
        have HOP := Aside0.mk hOp
        have HOK := Aside0.mk hopk
        clear hol hop hOp hopk
        go_wp2_with fail
        refine (HOP.out _).mono ?_
        rintro e w2 ⟨rfl, hB2⟩
        have HB2 := Aside0.mk (HB1.out.trans (hB2.mono HB1.out.size))
        have HP2 := Aside0.mk (HP1.out.below hB2)
        have HRT2 := Aside0.mk (NR.trees (KR.of_below hB2) HRT1.out)
        clear hB2 v0 v1 v2 HP1 HRT1
        obtain ⟨nb, hnb⟩ : ∃ x, numbersV op = x := ⟨_, rfl⟩
        have hNu := fun W => Numbers_any op W
        have hnb2 : nb ≤ 2 := by rw [← hnb]; exact numbersV_le op
        rw [hnb] at hR hNu
        have HNU := Aside0.mk hNu
        clear hnb hNu
        go_wp2_with fail
        refine (HNU.out _).mono ?_
        rintro e w3 ⟨rfl, hB3⟩
        have HB3 := Aside0.mk (HB2.out.trans (hB3.mono HB2.out.size))
        have HP3 := Aside0.mk (HP2.out.below hB3)
        have HRT3 := Aside0.mk (NR.trees (KR.of_below hB3) HRT2.out)
        clear hB3 HP2 HRT2
        rw [HHM.out] at hR
        by_cases hz : nb = 0 ∨ m + 1 ≠ nb
        · rw [if_pos hz] at hR
          have HR := Aside0.mk hR
          have HZ := Aside0.mk hz
          clear hR
          by_cases hz0 : nb = 0
          · subst hz0
            clear hz
            go_wp2_with fail
            go_returns
            rw [← HR.out]
            exact RPost.new HH.out HB3.out hB 0 54
          · have hz1 : ¬ ((nb : Int) = 0) := by omega
            have hz2 : ¬ ((m : Int) + 3 = 2 + (nb : Int)) := by omega
            have hz3 : wrap64 (2 + (nb : Int)) = 2 + (nb : Int) := by unfold wrap64; omega
            have hz6 : ((m : Int) + 3 != 2 + (nb : Int)) = true := by simpa using hz2
            have hz5 : ((nb : Int) == 0) = false := by simpa using hz1
            clear hz hz0 hz2 hz1 hz3
            go_wp2_with fail
            go_returns
            rw [← HR.out]
            exact RPost.new HH.out HB3.out hB 0 54
        · rw [if_neg hz] at hR
          obtain rfl : nb = m + 1 := by omega
          have HR := Aside0.mk hR
          have hm1 : m ≤ 1 := by omega
          have hcap : ¬ hc = 2 := by have := HHC.out; omega
          clear hz hnb2 hR
          obtain rfl | rfl : m = 0 ∨ m = 1 := by omega
          · have HT1 : Aside0 (t.length = 1) := ⟨HHM.out⟩
            have hca := Cells.new w3 295 [.int .i64 0, .int .i64 0]
            have hba := (Below.refl _ w3).alloc (Nat.le_refl _) (.cells #[.int .i64 0, .int .i64 0] 295)
            have e6 : ad.add (3 + 3) = ⟨ad.block, ad.off + 6, none⟩ := by unfold Addr.add; simp
            have hrt3 := HRT3.out
            rw [e6] at hrt3
            clear e6 HRT3
            go_upto_region 8 with (fail)
            obtain ⟨w4, hw4⟩ : ∃ w4, w3.alloc (.cells #[.int .i64 0, .int .i64 0] 295) = w4 := ⟨_, rfl⟩
            have hca : Cells w4 w3.heap.size 295 [.int .i64 0, .int .i64 0] := by rw [← hw4]; exact hca
            rw [hw4] at hba ⊢
            have HRT3 := Aside0.mk hrt3
            have HBA := Aside0.mk hba
            have HRJ : Aside0 ((match numsV (t.drop 0) with
              | none => failF 50 r
              | some rs => operatorF rec op ((([] : List Nat) ++ rs).getD 0 0 : Nat) ((([] : List Nat) ++ rs).getD 1 0 : Nat) l b lim r) = R) := ⟨HR.out⟩
            have HCA := Aside0.mk hca
            clear hw4 hba hca hrt3
            go_wp2_with fail
            go_loopw [52] (fun v52 wr => ∃ (j : Nat) (ns : List Nat), j ≤ 1 ∧ v52 = .int .i64 (j : Int) ∧ Aside0 (ns.length = j) ∧ Aside0 ((match numsV (t.drop j) with
              | none => failF 50 r
              | some rs => operatorF rec op ((ns ++ rs).getD 0 0 : Nat) ((ns ++ rs).getD 1 0 : Nat) l b lim r) = R) ∧ Aside0 (Cells wr w3.heap.size 295 [.int .i64 (ns.getD 0 0 : Nat), .int .i64 (ns.getD 1 0 : Nat)]) ∧ Aside0 (Below w3.heap.size w3 wr) ∧ Aside0 (∀ n ∈ ns, i64ok (n : Int))) (fun v52 _ => 1 - (intOf v52).toNat)
            case atStart => exact ⟨0, [], by omega, rfl, ⟨rfl⟩, HRJ, HCA, HBA, ⟨fun n hn => by cases hn⟩⟩
            case round =>
              obtain ⟨j, ns, hj, rfl, HNS, HRR2, HCN, HBW, HNO⟩ := hrel
              by_cases hlt : j < 1
              · have hlt' : (j : Int) < 1 := by omega
                obtain ⟨x, hx⟩ : ∃ x, t[j]? = some x := ⟨_, List.getElem?_eq_getElem (by rw [HT1.out]; exact hlt)⟩
                obtain ⟨ad', pa, pc, hq, _, hrt, x0, x1, x2⟩ := RL_kid3 (NR.trees (KR.of_below HBW.out) HRT3.out) j x hx
                cases hq
                rw [add_plain] at x0 x1 x2
                dsimp only at x1 x2
                have hxz : x.word.size ≤ 9223372036854775807 := by obtain ⟨_, _, _, _, _, q, _⟩ := RT_cells hrt; exact q
                have hS := HRR2.out
                obtain ⟨hg1, hg2⟩ := List.getElem?_eq_some_iff.1 hx
                rw [List.drop_eq_getElem_cons hg1, hg2, numsV] at hS
                obtain ⟨O, hO⟩ : ∃ O, numX 9 x.list x.word = O := ⟨_, rfl⟩
                have hO2 : (if x.list = true then none else numO 9 x.word.data.toList) = O := hO
                rw [hO2] at hS
                have hok : ∀ k, O = some k → i64ok (k : Int) := fun k hk => by
                  rw [hk] at hO2
                  split at hO2
                  · cases hO2
                  · exact numO_small hO2
                have hnu := fun W hev => numeralG_any 9 (by decide) x.word x.list pa x.kids.length pc W hxz hev
                unfold NumPost at hnu
                rw [hO] at hnu
                have HNUM := Aside0.mk hnu
                have HS := Aside0.mk hS
                have HOK2 := Aside0.mk hok
                have hc0 := HCN.out.cell 0 _ rfl
                have hbx := (Below.refl _ wr).alloc (Nat.le_refl _) (.cells #[.string x.word, .bool x.list, .slice pa x.kids.length pc] 49)
                have hcx := HCN.out.alloc (.cells #[.string x.word, .bool x.list, .slice pa x.kids.length pc] 49)
                have HBX := Aside0.mk hbx
                have HCX := Aside0.mk hcx
                have HEV : Aside0 (ErrV (wr.alloc (.cells #[.string x.word, .bool x.list, .slice pa x.kids.length pc] 49))) := ⟨(HH.out.sc.err.below (HB3.out)).below (HBW.out.trans (hbx.mono HBW.out.size))⟩
                clear hx hrt hg1 hg2 hS hO hO2 hok hnu hbx hcx hc0
                go_wp2_with fail
                refine (HNUM.out _ HEV.out).mono ?_
                rintro e w5 ⟨⟨mm, rfl, hmm⟩, hB5⟩
                have HBW5 := Aside0.mk (HBW.out.trans ((HBX.out.trans (hB5.mono HBX.out.size)).mono HBW.out.size))
                have HCN5 := Aside0.mk (HCX.out.below hB5)
                clear hB5 x0 x1 x2
                cases O with
                | none =>
                  have HF : Aside0 (failF 50 r = R) := ⟨HS.out⟩
                  clear hmm
                  go_wp2_with fail
                  go_returns
                  rw [← HF.out]
                  exact RPost.new HH.out (HB3.out.trans (HBW5.out.mono HB3.out.size)) hB 0 50
                | some k =>
                  have hmk : mm = (k : Int) := hmm k (by decide) rfl
                  subst hmk
                  clear hmm
                  have f0 := HCN5.out.frozen j
                  have hjl : j = 0 ∨ j = 1 := by omega
                  have hcj : ∃ v, w5.cell? ⟨w3.heap.size, j, none⟩ = some v := by
                    rcases hjl with rfl | rfl
                    · exact ⟨_, HCN5.out.cell 0 _ rfl⟩
                    · exact ⟨_, HCN5.out.cell 1 _ rfl⟩
                  obtain ⟨cv, hcv⟩ := hcj
                  have hj2 : (j : Int) < 2 := by omega
                  go_wp2_with fail
                  refine ⟨⟨j + 1, ns ++ [k], by omega, by simp, ⟨by rw [List.length_append, HNS.out]; rfl⟩, ⟨?_⟩, ⟨?_⟩, ⟨HBW5.out.setCell (p := ⟨w3.heap.size, j, none⟩) (Nat.le_refl _) _⟩, ⟨?_⟩⟩, by simp only [intOf]; omega⟩
                  · have := HS.out
                    cases hq : numsV (t.drop (j + 1)) with
                    | none => rw [hq] at this; exact this
                    | some rs =>
                      rw [hq] at this
                      rw [← this]
                      simp
                  · have hl := HNS.out
                    rcases hjl with rfl | rfl
                    · obtain rfl := List.eq_nil_of_length_eq_zero hl
                      exact HCN5.out.set 0 (.int .i64 (k : Int))
                    · obtain ⟨n0, rfl⟩ := List.length_eq_one_iff.1 hl
                      exact HCN5.out.set 1 (.int .i64 (k : Int))
                  · intro n hn
                    rcases List.mem_append.1 hn with hn | hn
                    · exact HNO.out n hn
                    · rw [List.mem_singleton.1 hn]; exact HOK2.out k rfl
              · obtain rfl : j = 1 := by omega
                clear hlt
                have hS := HRR2.out
                rw [List.drop_of_length_le (by rw [HT1.out]; exact Nat.le_refl _)] at hS
                have hS : operatorF rec op ((ns ++ []).getD 0 0 : Nat) ((ns ++ []).getD 1 0 : Nat) l b lim r = R := hS
                rw [List.append_nil] at hS
                have hbw := HB3.out.trans (HBW.out.mono HB3.out.size)
                have hnz : ∀ q, i64ok ((ns.getD q 0 : Nat) : Int) := fun q => by
                  by_cases hq : q < ns.length
                  · have : ns.getD q 0 = ns[q] := by simp [List.getD, List.getElem?_eq_getElem hq]
                    rw [this]
                    exact HNO.out _ (List.getElem_mem hq)
                  · simp [List.getD, List.getElem?_eq_none (Nat.le_of_not_lt hq)]
                    unfold i64ok; omega
                have hop := wop_any z wr E vl cs defs r rec d hd HT.out HRR.out HMO.out op (ns.getD 0 0 : Nat) (ns.getD 1 0 : Nat) HOK.out (hnz 0) (hnz 1) l A c b p lim (HH.out.below hbw) (Nat.le_trans hB hbw.size) (NR.trees (KR.of_below hbw) HRL.out) HLC.out hcc (BL.next (KR.of_below hbw) HBL.out) HBO.out hlim hn
                rw [hS] at hop
                unfold plV opN at hop
                have HOP := Aside0.mk hop
                have hcp := HP3.out.below HBW.out
                have HBWW := Aside0.mk hbw
                have q0 := hcp.cell 0 _ rfl
                have q1 := hcp.cell 1 _ rfl
                have q2 := hcp.cell 2 _ rfl
                have y0 := HCN.out.cell 0 _ rfl
                have y1 := HCN.out.cell 1 _ rfl
                obtain ⟨p0, hp0⟩ : ∃ v : Int, ((ns.getD 0 0 : Nat) : Int) = v := ⟨_, rfl⟩
                obtain ⟨p1, hp1⟩ : ∃ v : Int, ((ns.getD 1 0 : Nat) : Int) = v := ⟨_, rfl⟩
                rw [hp0] at y0 HOP
                rw [hp1] at y1 HOP
                clear hS hop hcp hbw hnz hp0 hp1
                go_wp2_with fail
                refine HOP.out.mono ?_
                intro e w9 hp
                have hq := RPost.pre HBWW.out hB hp
                obtain ⟨rfl, hq2⟩ := hq
                have HQ := Aside0.mk hq2
                clear hq2 hp
                go_wp2_with fail
                go_returns
                exact ⟨rfl, HQ.out⟩
          · have HT1 : Aside0 (t.length = 2) := ⟨HHM.out⟩
            have hca := Cells.new w3 295 [.int .i64 0, .int .i64 0]
            have hba := (Below.refl _ w3).alloc (Nat.le_refl _) (.cells #[.int .i64 0, .int .i64 0] 295)
            have e6 : ad.add (3 + 3) = ⟨ad.block, ad.off + 6, none⟩ := by unfold Addr.add; simp
            have hrt3 := HRT3.out
            rw [e6] at hrt3
            clear e6 HRT3
            go_upto_region 8 with (fail)
            obtain ⟨w4, hw4⟩ : ∃ w4, w3.alloc (.cells #[.int .i64 0, .int .i64 0] 295) = w4 := ⟨_, rfl⟩
            have hca : Cells w4 w3.heap.size 295 [.int .i64 0, .int .i64 0] := by rw [← hw4]; exact hca
            rw [hw4] at hba ⊢
            have HRT3 := Aside0.mk hrt3
            have HBA := Aside0.mk hba
            have HRJ : Aside0 ((match numsV (t.drop 0) with
              | none => failF 50 r
              | some rs => operatorF rec op ((([] : List Nat) ++ rs).getD 0 0 : Nat) ((([] : List Nat) ++ rs).getD 1 0 : Nat) l b lim r) = R) := ⟨HR.out⟩
            have HCA := Aside0.mk hca
            clear hw4 hba hca hrt3
            go_wp2_with fail
            go_loopw [52] (fun v52 wr => ∃ (j : Nat) (ns : List Nat), j ≤ 2 ∧ v52 = .int .i64 (j : Int) ∧ Aside0 (ns.length = j) ∧ Aside0 ((match numsV (t.drop j) with
              | none => failF 50 r
              | some rs => operatorF rec op ((ns ++ rs).getD 0 0 : Nat) ((ns ++ rs).getD 1 0 : Nat) l b lim r) = R) ∧ Aside0 (Cells wr w3.heap.size 295 [.int .i64 (ns.getD 0 0 : Nat), .int .i64 (ns.getD 1 0 : Nat)]) ∧ Aside0 (Below w3.heap.size w3 wr) ∧ Aside0 (∀ n ∈ ns, i64ok (n : Int))) (fun v52 _ => 2 - (intOf v52).toNat)
            case atStart => exact ⟨0, [], by omega, rfl, ⟨rfl⟩, HRJ, HCA, HBA, ⟨fun n hn => by cases hn⟩⟩
            case round =>
              obtain ⟨j, ns, hj, rfl, HNS, HRR2, HCN, HBW, HNO⟩ := hrel
              by_cases hlt : j < 2
              · have hlt' : (j : Int) < 2 := by omega
                obtain ⟨x, hx⟩ : ∃ x, t[j]? = some x := ⟨_, List.getElem?_eq_getElem (by rw [HT1.out]; exact hlt)⟩
                obtain ⟨ad', pa, pc, hq, _, hrt, x0, x1, x2⟩ := RL_kid3 (NR.trees (KR.of_below HBW.out) HRT3.out) j x hx
                cases hq
                rw [add_plain] at x0 x1 x2
                dsimp only at x1 x2
                have hxz : x.word.size ≤ 9223372036854775807 := by obtain ⟨_, _, _, _, _, q, _⟩ := RT_cells hrt; exact q
                have hS := HRR2.out
                obtain ⟨hg1, hg2⟩ := List.getElem?_eq_some_iff.1 hx
                rw [List.drop_eq_getElem_cons hg1, hg2, numsV] at hS
                obtain ⟨O, hO⟩ : ∃ O, numX 9 x.list x.word = O := ⟨_, rfl⟩
                have hO2 : (if x.list = true then none else numO 9 x.word.data.toList) = O := hO
                rw [hO2] at hS
                have hok : ∀ k, O = some k → i64ok (k : Int) := fun k hk => by
                  rw [hk] at hO2
                  split at hO2
                  · cases hO2
                  · exact numO_small hO2
                have hnu := fun W hev => numeralG_any 9 (by decide) x.word x.list pa x.kids.length pc W hxz hev
                unfold NumPost at hnu
                rw [hO] at hnu
                have HNUM := Aside0.mk hnu
                have HS := Aside0.mk hS
                have HOK2 := Aside0.mk hok
                have hc0 := HCN.out.cell 0 _ rfl
                have hbx := (Below.refl _ wr).alloc (Nat.le_refl _) (.cells #[.string x.word, .bool x.list, .slice pa x.kids.length pc] 49)
                have hcx := HCN.out.alloc (.cells #[.string x.word, .bool x.list, .slice pa x.kids.length pc] 49)
                have HBX := Aside0.mk hbx
                have HCX := Aside0.mk hcx
                have HEV : Aside0 (ErrV (wr.alloc (.cells #[.string x.word, .bool x.list, .slice pa x.kids.length pc] 49))) := ⟨(HH.out.sc.err.below (HB3.out)).below (HBW.out.trans (hbx.mono HBW.out.size))⟩
                clear hx hrt hg1 hg2 hS hO hO2 hok hnu hbx hcx hc0
                go_wp2_with fail
                refine (HNUM.out _ HEV.out).mono ?_
                rintro e w5 ⟨⟨mm, rfl, hmm⟩, hB5⟩
                have HBW5 := Aside0.mk (HBW.out.trans ((HBX.out.trans (hB5.mono HBX.out.size)).mono HBW.out.size))
                have HCN5 := Aside0.mk (HCX.out.below hB5)
                clear hB5 x0 x1 x2
                cases O with
                | none =>
                  have HF : Aside0 (failF 50 r = R) := ⟨HS.out⟩
                  clear hmm
                  go_wp2_with fail
                  go_returns
                  rw [← HF.out]
                  exact RPost.new HH.out (HB3.out.trans (HBW5.out.mono HB3.out.size)) hB 0 50
                | some k =>
                  have hmk : mm = (k : Int) := hmm k (by decide) rfl
                  subst hmk
                  clear hmm
                  have f0 := HCN5.out.frozen j
                  have hjl : j = 0 ∨ j = 1 := by omega
                  have hcj : ∃ v, w5.cell? ⟨w3.heap.size, j, none⟩ = some v := by
                    rcases hjl with rfl | rfl
                    · exact ⟨_, HCN5.out.cell 0 _ rfl⟩
                    · exact ⟨_, HCN5.out.cell 1 _ rfl⟩
                  obtain ⟨cv, hcv⟩ := hcj
                  have hj2 : (j : Int) < 2 := by omega
                  go_wp2_with fail
                  refine ⟨⟨j + 1, ns ++ [k], by omega, by simp, ⟨by rw [List.length_append, HNS.out]; rfl⟩, ⟨?_⟩, ⟨?_⟩, ⟨HBW5.out.setCell (p := ⟨w3.heap.size, j, none⟩) (Nat.le_refl _) _⟩, ⟨?_⟩⟩, by simp only [intOf]; omega⟩
                  · have := HS.out
                    cases hq : numsV (t.drop (j + 1)) with
                    | none => rw [hq] at this; exact this
                    | some rs =>
                      rw [hq] at this
                      rw [← this]
                      simp
                  · have hl := HNS.out
                    rcases hjl with rfl | rfl
                    · obtain rfl := List.eq_nil_of_length_eq_zero hl
                      exact HCN5.out.set 0 (.int .i64 (k : Int))
                    · obtain ⟨n0, rfl⟩ := List.length_eq_one_iff.1 hl
                      exact HCN5.out.set 1 (.int .i64 (k : Int))
                  · intro n hn
                    rcases List.mem_append.1 hn with hn | hn
                    · exact HNO.out n hn
                    · rw [List.mem_singleton.1 hn]; exact HOK2.out k rfl
              · obtain rfl : j = 2 := by omega
                clear hlt
                have hS := HRR2.out
                rw [List.drop_of_length_le (by rw [HT1.out]; exact Nat.le_refl _)] at hS
                have hS : operatorF rec op ((ns ++ []).getD 0 0 : Nat) ((ns ++ []).getD 1 0 : Nat) l b lim r = R := hS
                rw [List.append_nil] at hS
                have hbw := HB3.out.trans (HBW.out.mono HB3.out.size)
                have hnz : ∀ q, i64ok ((ns.getD q 0 : Nat) : Int) := fun q => by
                  by_cases hq : q < ns.length
                  · have : ns.getD q 0 = ns[q] := by simp [List.getD, List.getElem?_eq_getElem hq]
                    rw [this]
                    exact HNO.out _ (List.getElem_mem hq)
                  · simp [List.getD, List.getElem?_eq_none (Nat.le_of_not_lt hq)]
                    unfold i64ok; omega
                have hop := wop_any z wr E vl cs defs r rec d hd HT.out HRR.out HMO.out op (ns.getD 0 0 : Nat) (ns.getD 1 0 : Nat) HOK.out (hnz 0) (hnz 1) l A c b p lim (HH.out.below hbw) (Nat.le_trans hB hbw.size) (NR.trees (KR.of_below hbw) HRL.out) HLC.out hcc (BL.next (KR.of_below hbw) HBL.out) HBO.out hlim hn
                rw [hS] at hop
                unfold plV opN at hop
                have HOP := Aside0.mk hop
                have hcp := HP3.out.below HBW.out
                have HBWW := Aside0.mk hbw
                have q0 := hcp.cell 0 _ rfl
                have q1 := hcp.cell 1 _ rfl
                have q2 := hcp.cell 2 _ rfl
                have y0 := HCN.out.cell 0 _ rfl
                have y1 := HCN.out.cell 1 _ rfl
                obtain ⟨p0, hp0⟩ : ∃ v : Int, ((ns.getD 0 0 : Nat) : Int) = v := ⟨_, rfl⟩
                obtain ⟨p1, hp1⟩ : ∃ v : Int, ((ns.getD 1 0 : Nat) : Int) = v := ⟨_, rfl⟩
                rw [hp0] at y0 HOP
                rw [hp1] at y1 HOP
                clear hS hop hcp hbw hnz hp0 hp1
                go_wp2_with fail
                refine HOP.out.mono ?_
                intro e w9 hp
                have hq := RPost.pre HBWW.out hB hp
                obtain ⟨rfl, hq2⟩ := hq
                have HQ := Aside0.mk hq2
                clear hq2 hp
                go_wp2_with fail
                go_returns
                exact ⟨rfl, HQ.out⟩
end
end Go.Proofs.YthhnhbpmpdminaaGreatDoor
