/-
Several texts as one: Rmn Rjo Rle.
-/
import Derived.Test.YthhnhbpmpdminaaGreatDoorXH
import Derived.Test.YthhnhbpmpdminaaGreatDoorRls
/-
The reader as a plain thing: what it counts never falls. Conditions: none.
-/
namespace Go.Proofs.YthhnhbpmpdminaaGreatDoor
set_option maxRecDepth 4096
open Go.RowKit
def Up (f : Rd → Rs) : Prop := ∀ r, r.n ≤ (f r).2.n
def UpL (f : Rd → Ls) : Prop := ∀ r, r.n ≤ (f r).2.n
theorem up_make (x : Nd) : Up (makeF x) := fun _ => Nat.le_refl _
theorem up_two (op : Int) (a b : Nat) : Up (twoF op a b) := up_make _
theorem up_then {m : Rd → Rs} {f : Nat → Rd → Rs} (hm : Up m) (hf : ∀ id, Up (f id)) : Up (fun r => thenF (m r) f) := fun r => by
  dsimp only
  unfold thenF
  split
  · exact hm r
  · exact Nat.le_trans (hm r) (hf _ _)
theorem up_thenL {m : Rd → Ls} {f : List Nat → Rd → Rs} (hm : UpL m) (hf : ∀ l, Up (f l)) : Up (fun r => thenL (m r) f) := fun r => by
  dsimp only
  unfold thenL
  split
  · exact hm r
  · exact Nat.le_trans (hm r) (hf _ _)
theorem up_seq {α : Type} {f : α → Rd → Rs} (hf : ∀ x, Up (f x)) : ∀ l, UpL (seqF f l)
  | [], r => Nat.le_refl _
  | x :: t, r => by
    unfold seqF
    split
    · exact hf x r
    · exact Nat.le_trans (hf x r) (up_seq hf t _)
theorem up_left (op : Int) : ∀ (l : List Nat) (out : Nat), Up (leftF op l out)
  | [], out, r => Nat.le_refl _
  | b :: t, out, r => by
    unfold leftF
    exact up_then (up_two op out b) (fun id => up_left op t id) r
theorem up_right (op : Int) : ∀ (l : List Nat) (out : Nat), Up (rightF op l out)
  | [], out, r => Nat.le_refl _
  | b :: t, out, r => by
    unfold rightF
    exact up_then (up_two op b out) (fun id => up_right op t id) r
theorem up_eq (p : Nat × Nat) : Up (eqF p) := up_two _ _ _
theorem up_ne (p : Nat × Nat) : Up (neF p) := up_then (up_two _ _ _) fun _ => up_make _
theorem up_chain (ids : List Nat) : Up (chainF ids) := up_thenL (up_seq up_eq _) fun _ => up_left _ _ _
theorem up_distinct (ids : List Nat) : Up (distinctF ids) := up_thenL (up_seq up_ne _) fun _ => up_left _ _ _
theorem up_apply (op p q : Int) (ids : List Nat) : Up (applyF op p q ids) := fun r => by
  unfold applyF
  split
  · exact up_chain ids r
  · split
    · exact up_distinct ids r
    · split
      · exact up_right _ _ _ r
      · split
        · exact up_left _ _ _ r
        · exact up_make _ r
section
variable (E : List Ent) {rec : Tm} (h : ∀ x b lim, Up (rec x b lim))
include h
theorem up_all (l : List Sx) (b : Bnd) (lim : Nat) : UpL (allF rec l b lim) := up_seq (fun x => h x b lim) l
theorem up_body (e : Ent) (i : Nat) (ids : List Nat) : Up (bodyF rec e i ids) := up_then (h _ _ _) fun id r => by
  split
  · exact Nat.le_refl _
  · exact Nat.le_refl _
theorem up_word (s : ByteArray) (b : Bnd) (lim : Nat) : Up (wordF E rec s b lim) := fun r => by
  unfold wordF
  repeat' split
  all_goals first
    | exact Nat.le_refl _
    | exact up_body h _ _ _ r
theorem up_operator (op p q : Int) (l : List Sx) (b : Bnd) (lim : Nat) : Up (operatorF rec op p q l b lim) := fun r => by
  unfold operatorF
  split
  · exact Nat.le_refl _
  · exact up_thenL (up_all h l b lim) (fun ids => up_apply op p q ids) r
theorem up_numbered (hd l : List Sx) (b : Bnd) (lim : Nat) : Up (numberedF rec hd l b lim) := fun r => by
  unfold numberedF
  repeat' split
  all_goals first
    | exact Nat.le_refl _
    | exact up_operator h _ _ _ _ _ _ r
omit h in
theorem up_bits (l : List Sx) : Up (bitsF l) := fun r => by
  unfold bitsF
  repeat' split
  all_goals exact Nat.le_refl _
theorem up_let (l : List Sx) (b : Bnd) (lim : Nat) : Up (letF rec l b lim) := fun r => by
  unfold letF
  repeat' split
  all_goals first
    | exact Nat.le_refl _
    | exact up_thenL (up_all h _ b lim) (fun ids => h _ _ _) r
theorem up_use (s : ByteArray) (l : List Sx) (b : Bnd) (lim : Nat) : Up (useF E rec s l b lim) := fun r => by
  unfold useF
  repeat' split
  all_goals first
    | exact Nat.le_refl _
    | (refine up_thenL (up_all h l b lim) (fun ids r => ?_) r
       split
       · exact Nat.le_refl _
       · exact up_body h _ _ _ r)
theorem up_list (l : List Sx) (b : Bnd) (lim : Nat) : Up (listF E rec l b lim) := fun r => by
  unfold listF
  repeat' split
  all_goals first
    | exact Nat.le_refl _
    | exact up_numbered h _ _ _ _ r
    | exact up_let h _ _ _ r
    | exact up_bits _ r
    | exact up_use E h _ _ _ _ r
    | exact up_operator h _ _ _ _ _ _ r
end
theorem up_tm (E : List Ent) : ∀ k x b lim, Up (tmF E k x b lim)
  | 0, _, _, _, _ => Nat.le_refl _
  | k + 1, x, b, lim, r => by
    unfold tmF
    split
    · exact Nat.le_succ _
    · split
      · exact Nat.le_trans (Nat.le_succ _) (up_word E (up_tm E k) x.word b lim { r with n := r.n + 1 })
      · exact Nat.le_trans (Nat.le_succ _) (up_list E (up_tm E k) x.kids b lim { r with n := r.n + 1 })
/-- What is read is counted. -/
theorem tm_count (E : List Ent) : ∀ k x b lim r, (tmF E k x b lim r).1.2 = 0 → r.n + 1 ≤ (tmF E k x b lim r).2.n
  | 0, _, _, _, _, h => absurd h (by simp [tmF, failF])
  | k + 1, x, b, lim, r, _ => by
    unfold tmF
    split
    · exact Nat.le_refl _
    · split
      · exact up_word E (up_tm E k) _ _ _ { r with n := r.n + 1 }
      · exact up_list E (up_tm E k) _ _ _ { r with n := r.n + 1 }
end Go.Proofs.YthhnhbpmpdminaaGreatDoor
/-
read.worker: term, all depths together. Conditions: the reader in memory; what let and bits are held to.
-/
namespace Go.Proofs.YthhnhbpmpdminaaGreatDoor
set_option maxRecDepth 4096
set_option maxHeartbeats 8000000
set_option linter.unusedSimpArgs false
set_option linter.unusedVariables false
set_option linter.unnecessarySimpa false
open Go.RowKit Go.Proofs.YthhnhbpmpdminaaGreatDoorW.PrintWords Go.Maps
section
variable (z : Zr) (E : List Ent) (vl : Value) (cs : List Value) (defs : Int)
theorem term_zero : TermC z E vl cs defs (tmF E 0) 201 := by
  intro w r x sc b p lim h hB hRT hBL hbo hlim hn
  obtain ⟨A, c, rfl, hc1, hc2, hws, hRL⟩ := RT_cells hRT
  have HI := Aside0.mk h
  have hb2 := ((Below.refl _ w).alloc (Nat.le_refl _) (.cells #[.string x.word, .bool x.list, .slice A x.kids.length c] 49)).alloc (by simp) (.cells #[.pointer p, .int .i64 (lim : Int), .int .i64 201] 139)
  have HB2 := Aside0.mk hb2
  clear h hRT hBL hbo hRL hb2
  unfold plV
  rw [show ((201 : Nat) : Int) = 201 from rfl]
  go_enter Tryz.func75, Tryz.ntmps75
  go_wp2_with fail
  go_returns
  exact RPost.new HI.out HB2.out hB 0 54
/-- Every depth. -/
theorem term_all (hlet : ∀ (rec : Tm) (d : Nat), d ≤ 900 → TermC z E vl cs defs rec (d + 1) → TmOk E rec rec → (∀ x b lim r, (rec x b lim r).1.2 = 0 → r.n + 1 ≤ (rec x b lim r).2.n) → LetC z E vl cs defs rec d) (hbits : BitsC z E vl cs defs) : ∀ k, k ≤ 200 → TermC z E vl cs defs (tmF E k) (201 - k)
  | 0, _ => term_zero z E vl cs defs
  | k + 1, hk => by
    have ih := term_all hlet hbits k (by omega)
    have hr : TmOk E (tmF E k) (tmF E k) := tm_ok (List.prefix_refl E) k
    have hmo := tm_count E k
    rw [show 201 - k = (200 - k) + 1 by omega] at ih
    have hd : 200 - k ≤ 900 := by omega
    rw [show 201 - (k + 1) = 200 - k by omega]
    exact term_any z E vl cs defs k (by omega) (wword_any z E vl cs defs (tmF E k) (200 - k) hd ih hr) (list_any z E vl cs defs (tmF E k) (200 - k) hd ih hr hmo (hlet _ _ hd ih hr hmo) hbits)
end
end Go.Proofs.YthhnhbpmpdminaaGreatDoor
/-
read.worker: let, of term and bindings. Conditions: the reader in memory.
-/
namespace Go.Proofs.YthhnhbpmpdminaaGreatDoor
set_option maxRecDepth 4096
set_option maxHeartbeats 8000000
set_option linter.unusedSimpArgs false
set_option linter.unusedVariables false
set_option linter.unnecessarySimpa false
open Go.RowKit Go.Proofs.YthhnhbpmpdminaaGreatDoorW.PrintWords Go.Maps PReadTwice
/-- A row of words in new memory; one of things. -/
def WordsIn (B : Nat) (w : World) (ns : List ByteArray) (v : Value) : Prop := ∃ A c, v = .slice A ns.length c ∧ ns.length ≤ c ∧ (∀ s ∈ ns, s.size ≤ maxLen) ∧ (ns ≠ [] → ∃ b l, A = some ⟨b, 0, none⟩ ∧ B ≤ b ∧ Cells w b 9 l ∧ ∀ (j : Nat) s, ns[j]? = some s → l[j]? = some (.string s))
def ThingsIn (B : Nat) (S : Nat → Prop) (w : World) (xs : List Sx) (v : Value) : Prop := ∃ A c, v = .slice A xs.length c ∧ xs.length ≤ c ∧ c ≤ 9223372036854775807 ∧ RL w (fun k => S k ∨ B ≤ k ∧ ∃ l, Cells w k 49 l) xs A 0
theorem BL.put {z : Zr} {w w' : World} {c : Nat} {l : List Value} (hm : Mod (fun k => k = c) w w') (hc : Cells w c 139 l) : ∀ {b : Bnd} {p : Option Addr}, BL z w b p → BL z w' b p
  | [], _, h => h
  | q :: r, p, h => by
    obtain ⟨a, up, h1, h2, hs, h3, h4⟩ := h
    have hne : a ≠ c := fun e => by rw [e] at h3; exact absurd (h3.ty hc).1 (by decide)
    have h3' := h3.keep hm hne
    refine ⟨a, up, h1, ⟨h3'.lt, ?_⟩, hs, h3', BL.put hm hc h4⟩
    rintro ((q | q | q | ⟨_, l', hl'⟩) | q)
    · exact h2.2 (.inl (.inl q))
    · exact h2.2 (.inl (.inr (.inl q)))
    · exact h2.2 (.inl (.inr (.inr (.inl q))))
    · exact absurd (hl'.ty h3').1 (by decide)
    · exact h2.2 (.inr q)
/-- What bindings is held to. -/
def BindC : Prop := ∀ (w : World) (S : Nat → Prop) (x : Sx) (cs : List Value), (∀ k, S k → k < w.heap.size) → RT w S x cs →
  Calls Tryz.prog 200 #[.agg cs.toArray] w fun e w' => Below w.heap.size w w' ∧ ∃ v1 v2 er, e = .returned (.tuple #[v1, v2, .int .i64 er]) ∧
    match bindingsV x with
    | .inl e => er = e ∧ e ≠ 0
    | .inr ps => er = 0 ∧ WordsIn w.heap.size w' (ps.map (·.1)) v1 ∧ ThingsIn w.heap.size S w' (ps.map (·.2)) v2
section
variable (z : Zr) (w : World) (E : List Ent) (vl : Value) (cs : List Value) (defs : Int) (r : Rd)
theorem let_any (hbind : BindC) (rec : Tm) (d : Nat) (hd : d ≤ 900) (ht : TermC z E vl cs defs rec (d + 1)) (hr : TmOk E rec rec) (hmo : ∀ x b lim r, (rec x b lim r).1.2 = 0 → r.n + 1 ≤ (rec x b lim r).2.n) : LetC z E vl cs defs rec d := by
  intro w r l A c b p lim h hB hl hlc hcc hb hbo hlim hn
  obtain ⟨R, hR⟩ : ∃ R, letF rec l b lim r = R := ⟨_, rfl⟩
  rw [hR]
  unfold plV
  have hb0 := (Below.refl _ w).alloc (Nat.le_refl _) (.cells #[.pointer p, .int .i64 (lim : Int), .int .i64 (d : Int)] 139)
  have hp0 := Cells.new w 139 [.pointer p, .int .i64 (lim : Int), .int .i64 (d : Int)]
  go_enter Tryz.func151, Tryz.ntmps151
  go_upto_region 1 with (fail)
  obtain ⟨w0, hw0⟩ : ∃ w0, w.alloc (.cells #[.pointer p, .int .i64 (lim : Int), .int .i64 (d : Int)] 139) = w0 := ⟨_, rfl⟩
  have hp0 : Cells w0 w.heap.size 139 [.pointer p, .int .i64 (lim : Int), .int .i64 (d : Int)] := by rw [← hw0]; exact hp0
  rw [hw0] at hb0 ⊢
  clear hw0
  have HB0 := Aside0.mk hb0
  have HP0 := Aside0.mk hp0
  have HH := Aside0.mk h
  have HT := Aside0.mk ht
  have HRR := Aside0.mk hr
  have HMO := Aside0.mk hmo
  have HBL := Aside0.mk hb
  have HBO := Aside0.mk hbo
  have HRL := Aside0.mk (NR.trees (KR.of_below hb0) hl)
  have HBI := Aside0.mk hbind
  clear h ht hr hmo hb hl hbo hb0 hp0 hbind
  by_cases h2 : l.length = 2
  · obtain ⟨x, y, rfl⟩ : ∃ x y, l = [x, y] := by
      match l, h2 with
      | [x, y], _ => exact ⟨x, y, rfl⟩
    rw [show ([x, y] : List Sx).length = 2 from rfl] at *
    obtain ⟨ad, a1, c1, rfl, had, hrtx, x0, x1, x2⟩ := RL_kid3 HRL.out 0 x rfl
    obtain ⟨ad', a2, c2, hq, _, hrty, _, _, _⟩ := RL_kid3 HRL.out 1 y rfl
    cases hq
    rw [Nat.zero_mul] at x0 x1 x2
    have hx0 : ad.add 0 = ad := by unfold Addr.add; simp
    rw [hx0] at x0 x1 x2
    have hR2 := hR
    unfold letF at hR2
    have hbc := HBI.out w0 (NR z w0) x _ (fun k hk => hk.1) hrtx
    obtain ⟨O, hO⟩ : ∃ O, bindingsV x = O := ⟨_, rfl⟩
    rw [hO] at hbc
    dsimp only at hR2
    rw [hO] at hR2
    have HBC := Aside0.mk hbc
    have HR2 := Aside0.mk hR2
    clear hR2 hbc hO hrtx hrty hx0 had hR h2
    go_wp2_with fail
    refine HBC.out.mono ?_
    rintro e w1 ⟨hB1, v1, v2, er, rfl, hm⟩
    have H01 := Aside0.mk hB1
    have HB1 := Aside0.mk (HB0.out.trans (hB1.mono HB0.out.size))
    have HP1 := Aside0.mk (HP0.out.below hB1)
    clear hB1 x0 x1 x2
    cases O with
    | inl er0 =>
      dsimp only at hm
      obtain ⟨rfl, hne⟩ := hm
      have HF : Aside0 (failF er r = R) := ⟨HR2.out⟩
      have he2 : (er != 0) = true := by simpa using hne
      clear hne
      go_wp2_with fail
      go_returns
      rw [← HF.out]
      exact RPost.new HH.out HB1.out hB 0 er
    | inr ps =>
      dsimp only at hm
      obtain ⟨rfl, hwi, hti⟩ := hm
      obtain ⟨A2, k2, rfl, hk1, hk2, hrl2⟩ := hti
      have HWI := Aside0.mk hwi
      have hR3 : thenL (allF rec (ps.map (·.2)) b lim r) (fun ids r => rec y (((ps.map (·.1)).zip ids).reverse ++ b) lim r) = R := HR2.out
      have hrl3 : RL w1 (NR z w1) (ps.map (·.2)) A2 0 := RL_move (fun _ _ => rfl) (fun k hk => by
        rcases hk with hk | ⟨hk, l', hl'⟩
        · exact hk.next (KR.of_below H01.out)
        · exact HH.out.fresh hl' (by decide) (Nat.le_trans HB0.out.size hk)) _ _ _ hrl2
      have H1 := HH.out.below HB1.out
      have hB1 : z.B ≤ w1.heap.size := Nat.le_trans hB HB1.out.size
      have hal := all_any z w1 E vl cs defs r rec d hd HT.out HRR.out HMO.out (ps.map (·.2)) A2 k2 b p lim H1 hB1 hrl3 (BL.next (KR.of_below HB1.out) HBL.out) HBO.out hlim hn (by omega)
      have hai := all_ids HRR.out (l := ps.map (·.2)) (lim := lim) HBO.out H1.dec hn
      obtain ⟨⟨⟨ids, er⟩, r2⟩, hrr⟩ : ∃ rr, allF rec (ps.map (·.2)) b lim r = rr := ⟨_, rfl⟩
      rw [hrr] at hal hai hR3
      unfold plV at hal
      dsimp only at hal hai
      rw [List.length_map] at hal hai ⊢
      obtain ⟨n, hnn⟩ : ∃ n, ps.length = n := ⟨_, rfl⟩
      rw [hnn] at hal hai ⊢
      have HNN := Aside0.mk hnn
      have HNK : Aside0 (n ≤ k2) := ⟨by rw [← hnn]; simpa using hk1⟩
      have HAL := Aside0.mk hal
      have HAI := Aside0.mk hai
      have HR3 := Aside0.mk hR3
      have q0 := HP1.out.cell 0 _ rfl
      have q1 := HP1.out.cell 1 _ rfl
      have q2 := HP1.out.cell 2 _ rfl
      clear hrr hal hai hR3 hrl2 hrl3 hwi H1 hk1 hnn
      go_wp2_with fail
      refine HAL.out.mono ?_
      rintro e w6 ⟨v, rfl, g1, g2, g3, g4⟩
      have G1 := Aside0.mk g1
      have G2 := Aside0.mk ((KR.of_below HB1.out).trans g2)
      have G3 := Aside0.mk ((HB1.out.mono hB).trans g3)
      have K16 := Aside0.mk g2
      have HP6 := Aside0.mk (NR.cells HP1.out (HH.out.fresh HP1.out (by decide) (Nat.le_refl _)) g2)
      have HIV : Aside0 (er = 0 → IdV z w6 ids v) := ⟨fun q => (g4 q).idv g1⟩
      clear g1 g2 g3 g4 q0 q1 q2
      by_cases he : er = 0
      · subst he
        have hR4 : rec y (((ps.map (·.1)).zip ids).reverse ++ b) lim r2 = R := by
          have := HR3.out
          unfold thenL at this
          rw [if_neg (by simp)] at this
          exact this
        have HEX := Aside0.mk HAI.out.1
        obtain ⟨hn2, hidl, hids⟩ := HAI.out.2 rfl
        obtain ⟨IA, ic, rfl, hIA⟩ := HIV.out rfl
        rw [hidl]
        obtain ⟨NA, nc, rfl, hnl, hnz, hna⟩ := HWI.out
        rw [List.length_map, HNN.out] at hnl ⊢
        have HR4 := Aside0.mk hR4
        have HIDN := Aside0.mk hidl
        have HIDS := Aside0.mk hids
        have HIA := Aside0.mk hIA
        have HHN := Aside0.mk hn2
        have HNZ := Aside0.mk hnz
        have HNA : Aside0 (ps.map (·.1) ≠ [] → ∃ b l, NA = some ⟨b, 0, none⟩ ∧ NR z w6 b ∧ Cells w6 b 9 l ∧ ∀ (j : Nat) s, (ps.map (·.1))[j]? = some s → l[j]? = some (.string s)) := ⟨fun q => by
          obtain ⟨b1, l1, e1, e2, e3, e4⟩ := hna q
          have hnr := HH.out.fresh e3 (by decide) (Nat.le_trans HB0.out.size e2)
          exact ⟨b1, l1, e1, hnr.next K16.out, NR.cells e3 hnr K16.out, e4⟩⟩
        have q0 := HP6.out.cell 0 _ rfl
        have q1 := HP6.out.cell 1 _ rfl
        have q2 := HP6.out.cell 2 _ rfl
        clear hR4 hidl hids hIA hn2 hnz hna HIV HAI HWI hnl
        go_wp2_with fail
        refine (in_any p lim d (by omega) _).mono ?_
        rintro e w7 ⟨rfl, hB7⟩
        have G17 := Aside0.mk (G1.out.below hB7)
        have G27 := Aside0.mk (G2.out.step hB7)
        have hB6 : z.B ≤ w6.heap.size := Nat.le_trans hB G2.out.size
        have G37 := Aside0.mk (G3.out.trans (hB7.mono hB6))
        have HB67 := Aside0.mk hB7
        have hB7' : z.B ≤ w7.heap.size := Nat.le_trans hB6 hB7.size
        have hba := (Below.refl _ w7).alloc (Nat.le_refl _) (.cells #[.pointer p, .int .i64 (lim : Int), .int .i64 ((d : Int) + 1)] 139)
        have hca := Cells.new w7 139 [.pointer p, .int .i64 (lim : Int), .int .i64 ((d : Int) + 1)]
        clear hB7 q0 q1 q2
        go_upto_region 10 with (fail)
        obtain ⟨w8, hw8⟩ : ∃ w8, w7.alloc (.cells #[.pointer p, .int .i64 (lim : Int), .int .i64 ((d : Int) + 1)] 139) = w8 := ⟨_, rfl⟩
        have hca : Cells w8 w7.heap.size 139 [.pointer p, .int .i64 (lim : Int), .int .i64 ((d : Int) + 1)] := by rw [← hw8]; exact hca
        rw [hw8] at hba ⊢
        have HBA := Aside0.mk hba
        have HCA := Aside0.mk hca
        have HB0L : Aside0 (BL z w8 ((((ps.map (·.1)).zip ids).take 0).reverse ++ b) p) := ⟨BL.next (G27.out.step hba) HBL.out⟩
        clear hw8 hba hca
        have hnk9 : n ≤ 9223372036854775807 := by have := HNK.out; omega
        go_wp2_with fail
        go_loopw [43] (fun v43 wr => ∃ (j : Nat) (q : Option Addr), j ≤ n ∧ v43 = .int .i64 (j : Int) ∧ Aside0 (Cells wr w7.heap.size 139 [.pointer q, .int .i64 (lim : Int), .int .i64 ((d : Int) + 1)]) ∧ Aside0 (BL z wr ((((ps.map (·.1)).zip ids).take j).reverse ++ b) q) ∧ Aside0 (Below w7.heap.size w7 wr)) (fun v43 _ => n - (intOf v43).toNat)
        case atStart => exact ⟨0, p, by omega, rfl, HCA, HB0L, HBA⟩
        case round =>
          obtain ⟨j, q, hj, rfl, HCJ, HBJ, HBW⟩ := hrel
          by_cases hlt : j < n
          · have hlt' : (j : Int) < (n : Int) := by omega
            obtain ⟨s, hs⟩ : ∃ s, (ps.map (·.1))[j]? = some s := ⟨_, List.getElem?_eq_getElem (by rw [List.length_map, HNN.out]; exact hlt)⟩
            obtain ⟨id, hid⟩ : ∃ id, ids[j]? = some id := ⟨_, List.getElem?_eq_getElem (by rw [HIDN.out]; exact hlt)⟩
            obtain ⟨nb, nl, rfl, hn1, hn2, hn3⟩ := HNA.out (fun q => by rw [q] at hs; cases hs)
            obtain ⟨bi, rfl, hio⟩ := HIA.out (fun q => by rw [q] at hid; cases hid)
            have k6 : KR z w6 wr := (KR.of_below HB67.out).step HBW.out
            have hcs : wr.cell? ⟨nb, j, none⟩ = some (.string s) := (NR.cells hn2 hn1 k6).cell j _ (hn3 j s hs)
            have hci := ((hio.next k6).2 j id hid).1
            have hzz : ((ps.map (·.1)).zip ids)[j]? = some (s, id) := by
              rw [List.getElem?_zip_eq_some]; exact ⟨hs, hid⟩
            have HZZ := Aside0.mk hzz
            have HSZ := Aside0.mk (HNZ.out s (List.mem_of_getElem? hs))
            have hct := HCJ.out.cell 0 _ rfl
            clear hs hid hn1 hn2 hn3 hio k6 hzz
            go_upto_region 13 with (fail)
            refine wp_plan [(0, 0), (0, 1), (0, 2), (0, 3), (0, 5), (1, 4), (1, 6), (0, 7), (3, 8), (0, 9), (3, 10)] (fun w' => w' = _) (by kernel_rfl) (by kernel_rfl) (fun _ _ d _ _ h => by cases d <;> exact h) rfl ?_
            simp only [planOps, List.filterMap_cons, List.filterMap_nil, List.getElem?_toArray, List.getElem?_cons_zero, List.getElem?_cons_succ, Option.map_some]
            repeat (first
              | (refine' plan_pu _ (by rfl) (fun w' => ?_) ?_; rotate_left 1; (focus (go_simp; try (with_reducible rfl))); (try simp only [wrapi_0, wrapi_1, wrapi_2, wrapi_3, wrapi_4, wrapi_0]); simp only [Act.put, List.setIfInBounds_toArray, List.set_cons_zero, List.set_cons_succ])
              | (refine' plan_off (by rfl) ?_; (try simp only [wrapi_0, wrapi_1, wrapi_2, wrapi_3, wrapi_4, wrapi_0]); simp only [Act.put, List.setIfInBounds_toArray, List.set_cons_zero, List.set_cons_succ])
              | (refine' plan_offL (by rfl) ?_; (try simp only [wrapi_0, wrapi_1, wrapi_2, wrapi_3, wrapi_4, wrapi_0]); simp only [Act.put, List.setIfInBounds_toArray, List.set_cons_zero, List.set_cons_succ])
              | (refine' plan_ld _ (by rfl) (fun w' hSw => ?_) ?_; rotate_left 1; (focus (subst hSw; go_simp; try (with_reducible rfl))); (try simp only [wrapi_0, wrapi_1, wrapi_2, wrapi_3, wrapi_4, wrapi_0]); simp only [Act.put, List.setIfInBounds_toArray, List.set_cons_zero, List.set_cons_succ]))
            refine plan_fi (fun K hK => ?_)
            go_simp
            refine hK.out _ _ ?_
            clear hK K
            have hc9 : Cells ((wr.alloc (.cells #[.string s, .int .i64 (id : Int), .pointer q] 294)).drew) wr.heap.size 294 [.string s, .int .i64 (id : Int), .pointer q] := (Cells.new wr _ _).drew
            have hp9 := (HCJ.out.alloc (.cells #[.string s, .int .i64 (id : Int), .pointer q] 294)).drew
            have hb9 := ((Below.refl _ wr).alloc (Nat.le_refl _) (.cells #[.string s, .int .i64 (id : Int), .pointer q] 294)).drew
            obtain ⟨w9, hw9⟩ : ∃ w9, (wr.alloc (.cells #[.string s, .int .i64 (id : Int), .pointer q] 294)).drew = w9 := ⟨_, rfl⟩
            rw [hw9] at hc9 hp9 hb9 ⊢
            clear hw9 hcs hci hct
            have HC9 := Aside0.mk hc9
            have HP9 := Aside0.mk hp9
            have HB9 := Aside0.mk hb9
            have p0 := hp9.cell 0 _ rfl
            have f0 := hp9.frozen 0
            clear hc9 hp9 hb9
            repeat (first
              | (refine' plan_pu _ (by rfl) (fun w' => ?_) ?_; rotate_left 1; (focus (go_simp; try (with_reducible rfl))); (try simp only [wrapi_0, wrapi_1, wrapi_2, wrapi_3, wrapi_4]); simp only [Act.put, List.setIfInBounds_toArray, List.set_cons_zero, List.set_cons_succ])
              | (refine' plan_off (by rfl) ?_; (try simp only [wrapi_0, wrapi_1, wrapi_2, wrapi_3, wrapi_4]); simp only [Act.put, List.setIfInBounds_toArray, List.set_cons_zero, List.set_cons_succ])
              | (refine' plan_offL (by rfl) ?_; (try simp only [wrapi_0, wrapi_1, wrapi_2, wrapi_3, wrapi_4]); simp only [Act.put, List.setIfInBounds_toArray, List.set_cons_zero, List.set_cons_succ])
              | (refine' plan_offE (by rfl) (by first | assumption | exact (by assumption)) ?_; (try simp only [wrapi_0, wrapi_1, wrapi_2, wrapi_3, wrapi_4]); simp only [Act.put, List.setIfInBounds_toArray, List.set_cons_zero, List.set_cons_succ])
              | (refine' plan_ld _ (by rfl) (fun w' hSw => ?_) ?_; rotate_left 1; (focus ((try dsimp only at hSw); skip; go_simp; try (with_reducible rfl))); (try simp only [wrapi_0, wrapi_1, wrapi_2, wrapi_3, wrapi_4]); simp only [Act.put, List.setIfInBounds_toArray, List.set_cons_zero, List.set_cons_succ]))
            refine plan_fi (fun K hK => ?_)
            go_simp
            refine hK.out _ _ ?_
            clear hK K p0 f0
            obtain ⟨w10, hw10⟩ : ∃ w10, w9.setCell ⟨w7.heap.size, 0, none⟩ (.pointer (some ⟨wr.heap.size, 0, none⟩)) = w10 := ⟨_, rfl⟩
            have hm10 : Mod (fun k => k = w7.heap.size) w9 w10 := by rw [← hw10]; exact Mod.setCell (S := fun k => k = w7.heap.size) (Mod.refl _ _) (.inl rfl) _
            have hp10 : Cells w10 w7.heap.size 139 [.pointer (some ⟨wr.heap.size, 0, none⟩), .int .i64 (lim : Int), .int .i64 ((d : Int) + 1)] := by rw [← hw10]; exact HP9.out.set 0 _
            have hb10 : Below w7.heap.size w7 w10 := by rw [← hw10]; exact (HBW.out.trans (HB9.out.mono HBW.out.size)).setCell (p := ⟨w7.heap.size, 0, none⟩) (Nat.le_refl _) _
            rw [hw10]
            clear hw10
            have hne : wr.heap.size ≠ w7.heap.size := by have := HCJ.out.lt; omega
            have hc10 := HC9.out.keep hm10 hne
            have HP10 := Aside0.mk hp10
            have HB10 := Aside0.mk hb10
            obtain ⟨hz1, hz2⟩ := List.getElem?_eq_some_iff.1 HZZ.out
            have HBL10 : Aside0 (BL z w10 ((((ps.map (·.1)).zip ids).take (j + 1)).reverse ++ b) (some ⟨wr.heap.size, 0, none⟩)) := ⟨by
              rw [List.take_succ_eq_append_getElem hz1, hz2, List.reverse_append]
              exact ⟨wr.heap.size, q, rfl, G17.out.fresh hc10 (by decide) HBW.out.size, HSZ.out, hc10, BL.put hm10 HP9.out (BL.next (KR.of_below HB9.out) HBJ.out)⟩⟩
            clear hm10 hp10 hb10 hne hc10 hz1 hz2
            refine plan_nil ?_
            go_wp2_with fail
            exact ⟨⟨j + 1, some ⟨wr.heap.size, 0, none⟩, by omega, by simp, HP10, HBL10, HB10⟩, by simp only [intOf]; omega⟩
          · obtain rfl : j = n := by omega
            clear hlt
            have HBJ2 : Aside0 (BL z wr (((ps.map (·.1)).zip ids).reverse ++ b) q) := ⟨by
              have := HBJ.out
              rw [List.take_of_length_le (by simp [HIDN.out, HNN.out])] at this
              exact this⟩
            have hb0r : Below w0.heap.size w0 w1 := H01.out
            have k06 : KR z w0 w6 := (KR.of_below hb0r).trans K16.out
            have k6r : KR z w6 wr := (KR.of_below HB67.out).step HBW.out
            obtain ⟨ad', a2, c2, hq, had, hrty, y0, y1, y2⟩ := RL_kid3 HRL.out 1 y rfl
            cases hq
            have e3 : ad.add 3 = ⟨ad.block, ad.off + 3, none⟩ := by unfold Addr.add; simp
            have k0r := k06.trans k6r
            rw [Nat.one_mul] at y0 y1 y2
            have v0 := NR.cell (by rw [add_block]; exact had) k0r y0
            have v1 := NR.cell (by show NR z w0 (ad.add 3).block; rw [add_block]; exact had) k0r y1
            have v2 := NR.cell (by show NR z w0 (ad.add 3).block; rw [add_block]; exact had) k0r y2
            rw [e3] at v0 v1 v2
            dsimp only at v1 v2
            have hbd : Below wr.heap.size wr wr.drew := (Below.refl _ wr).drew
            have hbnd : BndOk (((ps.map (·.1)).zip ids).reverse ++ b) r2.G := bnd_zip HIDS.out (HBO.out.ext HEX.out)
            have htm := HT.out wr.drew r2 y _ (((ps.map (·.1)).zip ids).reverse ++ b) q lim ((G17.out.below HBW.out).below hbd) (Nat.le_trans hB7' HBW.out.size) (NR.tree (k0r.step hbd) hrty) (BL.next (KR.of_below hbd) HBJ2.out) hbnd hlim HHN.out
            have hR5 := HR4.out
            rw [hR5] at htm
            unfold plV at htm
            rw [show ((d + 1 : Nat) : Int) = (d : Int) + 1 from Int.natCast_succ d] at htm
            have HTM := Aside0.mk htm
            have hkr := Aside0.mk (G27.out.step (HBW.out.mono (Nat.le_refl _) : Below w7.heap.size w7 wr))
            have q0 := HCJ.out.cell 0 _ rfl
            have q1 := HCJ.out.cell 1 _ rfl
            have q2 := HCJ.out.cell 2 _ rfl
            clear hR5 htm hbnd hrty y0 y1 y2 e3 had k06 k6r k0r hb0r hbd
            go_wp2_with fail
            refine wp_plan [(0, 0), (0, 1), (0, 2), (1, 3), (1, 4), (3, 5), (0, 6), (0, 7), (0, 8), (0, 9)] (fun w' => w' = _) (by kernel_rfl) (by kernel_rfl) (fun _ _ d _ _ h => by cases d <;> exact h) rfl ?_
            simp only [planOps, List.filterMap_cons, List.filterMap_nil, List.getElem?_toArray, List.getElem?_cons_zero, List.getElem?_cons_succ, Option.map_some]
            repeat (first
              | (refine' plan_pu _ (by rfl) (fun w' => ?_) ?_; rotate_left 1; (focus (go_simp; try (with_reducible rfl))); (try simp only [wrapi_0, wrapi_1, wrapi_2, wrapi_3, wrapi_4, wrapi_0]); simp only [Act.put, List.setIfInBounds_toArray, List.set_cons_zero, List.set_cons_succ])
              | (refine' plan_off (by rfl) ?_; (try simp only [wrapi_0, wrapi_1, wrapi_2, wrapi_3, wrapi_4, wrapi_0]); simp only [Act.put, List.setIfInBounds_toArray, List.set_cons_zero, List.set_cons_succ])
              | (refine' plan_offL (by rfl) ?_; (try simp only [wrapi_0, wrapi_1, wrapi_2, wrapi_3, wrapi_4, wrapi_0]); simp only [Act.put, List.setIfInBounds_toArray, List.set_cons_zero, List.set_cons_succ])
              | (refine' plan_ld _ (by rfl) (fun w' hSw => ?_) ?_; rotate_left 1; (focus (subst hSw; go_simp; try (with_reducible rfl))); (try simp only [wrapi_0, wrapi_1, wrapi_2, wrapi_3, wrapi_4, wrapi_0]); simp only [Act.put, List.setIfInBounds_toArray, List.set_cons_zero, List.set_cons_succ]))
            refine plan_fi (fun K hK => ?_)
            go_simp
            refine HTM.out.mono ?_
            rintro e w11 ⟨rfl, a1', a2', a3'⟩
            have A1 := Aside0.mk a1'
            have A2 := Aside0.mk ((hkr.out.step ((Below.refl _ wr).drew)).trans a2')
            have A3 := Aside0.mk ((G37.out.trans ((HBW.out.trans (((Below.refl _ wr).drew).mono HBW.out.size)).mono hB7')).trans a3')
            clear a1' a2' a3'
            refine hK.out _ _ ?_
            clear hK K
            repeat (first
              | (refine' plan_pu _ (by rfl) (fun w' => ?_) ?_; rotate_left 1; (focus (go_simp; try (with_reducible rfl))); (try simp only [wrapi_0, wrapi_1, wrapi_2, wrapi_3, wrapi_4]); simp only [Act.put, List.setIfInBounds_toArray, List.set_cons_zero, List.set_cons_succ])
              | (refine' plan_off (by rfl) ?_; (try simp only [wrapi_0, wrapi_1, wrapi_2, wrapi_3, wrapi_4]); simp only [Act.put, List.setIfInBounds_toArray, List.set_cons_zero, List.set_cons_succ])
              | (refine' plan_offL (by rfl) ?_; (try simp only [wrapi_0, wrapi_1, wrapi_2, wrapi_3, wrapi_4]); simp only [Act.put, List.setIfInBounds_toArray, List.set_cons_zero, List.set_cons_succ])
              | (refine' plan_offE (by rfl) (by first | assumption | exact (by assumption)) ?_; (try simp only [wrapi_0, wrapi_1, wrapi_2, wrapi_3, wrapi_4]); simp only [Act.put, List.setIfInBounds_toArray, List.set_cons_zero, List.set_cons_succ])
              | (refine' plan_ld _ (by rfl) (fun w' hSw => ?_) ?_; rotate_left 1; (focus ((try dsimp only at hSw); skip; go_simp; try (with_reducible rfl))); (try simp only [wrapi_0, wrapi_1, wrapi_2, wrapi_3, wrapi_4]); simp only [Act.put, List.setIfInBounds_toArray, List.set_cons_zero, List.set_cons_succ]))
            refine plan_nil ?_
            go_wp2_with fail
            go_returns
            exact ⟨rfl, A1.out, A2.out, A3.out⟩
      · have hS3 : failF er r2 = R := by
          have := HR3.out
          unfold thenL at this
          rw [if_pos he] at this
          exact this
        have HS3 := Aside0.mk hS3
        have he2 : (er != 0) = true := by simpa using he
        clear hS3
        go_wp2_with fail
        go_returns
        rw [← HS3.out]
        exact ⟨rfl, G1.out, G2.out, G3.out⟩
  · have hR2 : failF 54 r = R := by
      rw [← hR]
      match l, h2 with
      | [], _ => rfl
      | [_], _ => rfl
      | [_, _], h2 => exact absurd rfl h2
      | _ :: _ :: _ :: _, _ => rfl
    have HR := Aside0.mk hR2
    have hn2 : ((l.length : Int) != 2) = true := by simp; omega
    clear hR hR2 h2
    go_wp2_with fail
    go_returns
    rw [← HR.out]
    exact RPost.new HH.out HB0.out hB 0 54
end
end Go.Proofs.YthhnhbpmpdminaaGreatDoor
