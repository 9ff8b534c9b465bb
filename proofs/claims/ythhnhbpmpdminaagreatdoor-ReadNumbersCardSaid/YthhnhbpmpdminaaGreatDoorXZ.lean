/-
Several texts as one: Nspy Rkn.
-/
import Derived.Test.YthhnhbpmpdminaaGreatDoorXH
import Derived.Test.YthhnhbpmpdminaaGreatDoorXY
import Derived.Test.YthhnhbpmpdminaaGreatDoorRfpy
/-
The program's Sort. Conditions: none.
-/
namespace Go.Proofs.YthhnhbpmpdminaaGreatDoor
open Go.RowKit Go.Proofs.YthhnhbpmpdminaaGreatDoorW.PrintWords
set_option maxRecDepth 4096
set_option maxHeartbeats 2000000 in
theorem rSortP_any (x : Sx) (c : List Value) (W : World) (hc : RT W (fun k => k < W.heap.size) x c) : Calls Tryz.prog 27 #[.agg c.toArray] W fun e W' => e = .returned (sortV 3 x) ∧ Below W.heap.size W W' := by
  obtain ⟨A, k, rfl, hk, hm, hws, hR⟩ := RT_cells hc
  have HC := Aside0.mk hc
  have AR := Aside0.mk hR
  clear hc hR
  go_enter Tryz.func27, Tryz.ntmps27
  go_wp2_with fail
  have hm0 : Mod (fun _ => False) W (W.alloc (.cells #[.string x.word, .bool x.list, .slice A x.kids.length k] 49)) := (Mod.refl _ _).alloc _
  have hc0 : Cells (W.alloc (.cells #[.string x.word, .bool x.list, .slice A x.kids.length k] 49)) W.heap.size 49 [.string x.word, .bool x.list, .slice A x.kids.length k] := Cells.new _ _ _
  generalize (W.alloc (.cells #[.string x.word, .bool x.list, .slice A x.kids.length k] 49)) = w0 at hc0 hm0 ⊢
  refine (rdword_any x _ ⟨#[66, 111, 111, 108]⟩ w0 (hm0.RT HC.out)).mono ?_
  rintro e w1 ⟨rfl, hB⟩
  have AC := Aside0.mk (hc0.below hB)
  have AM := Aside0.mk (hm0.trans (Mod.of_below hB))
  clear hc0 hm0 hB
  cases hb : isW x [66, 111, 111, 108] with
  | true =>
    have HV : Aside0 (sortV 3 x = .tuple #[.int .i64 0, .int .i64 0]) := ⟨by unfold sortV; rw [if_pos hb]⟩
    clear hb
    go_wp2_with fail
    go_returns
    exact ⟨by rw [HV.out]; rfl, AM.out.below⟩
  | false =>
    have HV : Aside0 (sortV 3 x = sortR 3 x) := ⟨by unfold sortV; rw [if_neg (by rw [hb]; simp)]⟩
    clear hb
    have q1 := AC.out.cell 1 _ rfl
    have q2 := AC.out.cell 2 _ rfl
    cases hx : x.list with
    | false =>
      have HS := Aside0.mk (sortR_leaf (most := 3) hx)
      rw [hx] at q1
      clear hx
      go_wp2_with fail
      go_returns
      exact ⟨by rw [HV.out, HS.out]; rfl, AM.out.below⟩
    | true =>
      rw [hx] at q1
      by_cases h3 : x.kids.length = 3
      · have HS := Aside0.mk (sortR_three (most := 3) h3 hx)
        obtain ⟨ad, rfl⟩ : ∃ ad, A = some ad := by
          cases A with
          | none => have := RL_none AR.out; omega
          | some ad => exact ⟨ad, rfl⟩
        obtain ⟨A0, c0, ht0, z01, z02, z03⟩ := kid_at (AM.out.RL AR.out) 0 (by omega)
        have T0 := Aside0.mk ht0
        have H3 := Aside0.mk h3
        have k3 : (x.kids.length : Int) = 3 := by omega
        have y01 : w1.cell? ad = some (.string x.kids[0].word) := z01
        have y02 : w1.cell? ⟨ad.block, ad.off + 1, none⟩ = some (.bool x.kids[0].list) := z02
        have y03 : w1.cell? ⟨ad.block, ad.off + 2, none⟩ = some (.slice A0 x.kids[0].kids.length c0) := z03
        clear ht0 hx z01 z02 z03
        go_wp2_with fail
        refine (rdword_any x.kids[0] _ ⟨#[95]⟩ w1 T0.out).mono ?_
        rintro e w2 ⟨rfl, hB⟩
        have AM2 := Aside0.mk (AM.out.trans (Mod.of_below hB))
        have q22 := (AC.out.below hB).cell 2 _ rfl
        clear hB y01 y02 y03 q1 q2
        cases hb0 : isW x.kids[0] [95] with
        | false =>
          have HS2 : Aside0 (sortR 3 x = srtE) := ⟨by rw [HS.out, hb0]; rfl⟩
          clear hb0
          go_wp2_with fail
          go_returns
          exact ⟨by rw [HV.out, HS2.out]; rfl, AM2.out.below⟩
        | true =>
          have B0 := Aside0.mk hb0
          clear hb0
          obtain ⟨A1, c1, ht1, z11, z12, z13⟩ := kid_at (AM2.out.RL AR.out) 1 (by omega)
          have T1 := Aside0.mk ht1
          have y11 : w2.cell? ⟨ad.block, ad.off + 3, none⟩ = some (.string x.kids[1].word) := z11
          have y12 : w2.cell? ⟨ad.block, ad.off + 3 + 1, none⟩ = some (.bool x.kids[1].list) := z12
          have y13 : w2.cell? ⟨ad.block, ad.off + 3 + 2, none⟩ = some (.slice A1 x.kids[1].kids.length c1) := z13
          clear ht1 z11 z12 z13
          go_wp2_with fail
          refine (rdword_any x.kids[1] _ ⟨#[66, 105, 116, 86, 101, 99]⟩ w2 T1.out).mono ?_
          rintro e w3 ⟨rfl, hB⟩
          have AM3 := Aside0.mk (AM2.out.trans (Mod.of_below hB))
          have q32 : w3.cell? ⟨W.heap.size, 2, none⟩ = some (.slice (some ad) x.kids.length k) := (Mod.of_below (S := fun _ => False) hB).cell q22
          clear hB y11 y12 y13 q22
          cases hb1 : isW x.kids[1] [66, 105, 116, 86, 101, 99] with
          | false =>
            have HS2 : Aside0 (sortR 3 x = srtE) := ⟨by rw [HS.out, B0.out, hb1]; rfl⟩
            clear hb1
            go_wp2_with fail
            go_returns
            exact ⟨by rw [HV.out, HS2.out]; rfl, AM3.out.below⟩
          | true =>
            have B1 := Aside0.mk hb1
            clear hb1
            obtain ⟨A2, c2, ht2, z21, z22, z23⟩ := kid_at (AM3.out.RL AR.out) 2 (by omega)
            have T2 := Aside0.mk ht2
            have y21 : w3.cell? ⟨ad.block, ad.off + 6, none⟩ = some (.string x.kids[2].word) := z21
            have y22 : w3.cell? ⟨ad.block, ad.off + 6 + 1, none⟩ = some (.bool x.kids[2].list) := z22
            have y23 : w3.cell? ⟨ad.block, ad.off + 6 + 2, none⟩ = some (.slice A2 x.kids[2].kids.length c2) := z23
            clear ht2 z21 z22 z23
            go_wp2_with fail
            refine (numeral_any x.kids[2] _ w3 T2.out).mono ?_
            rintro e w4 ⟨rfl, hB⟩
            have AM4 := Aside0.mk (AM3.out.trans (Mod.of_below hB))
            clear hB y21 y22 y23 q32
            have HS2 : Aside0 (sortR 3 x = srtN (if x.kids[2].list then none else numO 3 x.kids[2].word.data.toList)) := ⟨by
              rw [HS.out, B0.out, B1.out]
              cases x.kids[2].list <;> rfl⟩
            generalize (if x.kids[2].list then none else numO 3 x.kids[2].word.data.toList) = o at HS2 ⊢
            cases o with
            | none =>
              unfold numV
              go_wp2_with fail
              go_returns
              exact ⟨by rw [HV.out, HS2.out]; rfl, AM4.out.below⟩
            | some n =>
              unfold numV
              go_wp2_with fail
              all_goals (
                go_returns
                refine ⟨?_, AM4.out.below⟩
                rw [HV.out, HS2.out]
                unfold srtN
                simp only []
                first
                  | (rw [if_pos (by omega)]; done)
                  | (rw [if_neg (by omega)]; rfl)
                  | (rw [if_pos (by omega)]; rfl))
      · have HS := Aside0.mk (sortR_len (most := 3) h3)
        have n3 : ¬ (x.kids.length : Int) = 3 := by omega
        clear hx h3
        go_wp2_with fail
        go_returns
        exact ⟨by rw [HV.out, HS.out]; rfl, AM.out.below⟩
end Go.Proofs.YthhnhbpmpdminaaGreatDoor
/-
The law's known, walked by hand: the chapter's examples. Conditions: strconv's variable holds an error.
-/
namespace Go.Proofs.YthhnhbpmpdminaaGreatDoor
set_option maxRecDepth 4096
set_option maxHeartbeats 8000000
set_option linter.unusedSimpArgs false
set_option linter.unusedVariables false
set_option linter.unnecessarySimpa false
open Go.RowKit Go.Proofs.YthhnhbpmpdminaaGreatDoorW.PrintWords Go.Maps PReadTwice
theorem parsed_any (t : ByteArray) (x : Sx) (r : List Sx) (hp : parse t.data.toList = .ok (x :: r)) (ht : t.size ≤ 9223372036854775807) (W : World) :
    Calls Tryz.prog 41 #[.string t] W fun e W' => (∃ c', e = .returned (.agg c'.toArray) ∧ RT W' (NS W.heap.size W') x c') ∧ Below W.heap.size W W' := by
  obtain ⟨w0, hw0⟩ : ∃ w0, W.alloc (.cells #[.string ⟨#[]⟩, .bool false, .slice none 0 0] 49) = w0 := ⟨_, rfl⟩
  have HB0 : Aside0 (Below W.heap.size W w0) := ⟨by rw [← hw0]; exact (Below.refl _ W).alloc (Nat.le_refl _) _⟩
  have HC0 : Aside0 (Cells w0 W.heap.size 49 [.string ⟨#[]⟩, .bool false, .slice none 0 0]) := ⟨by rw [← hw0]; exact Cells.new W _ _⟩
  have HP := Aside0.mk hp
  clear hp
  go_enter Tryz.func41, Tryz.ntmps41
  go_wp2_with fail
  try rw [hw0]
  refine (ref_any t w0 ht).mono ?_
  rintro e w1 ⟨hr, hB1⟩
  rw [HP.out] at hr
  obtain ⟨A, c, rfl, hc1, hc2, hRL, hK⟩ := hr
  have HB1 := Aside0.mk (HB0.out.trans (hB1.mono HB0.out.size))
  have HC1 := Aside0.mk (HC0.out.below hB1)
  have HRL := Aside0.mk hRL
  have HLT : Aside0 (W.heap.size < w0.heap.size) := ⟨HC0.out.lt⟩
  obtain ⟨ad, a1, c1, rfl, _, hrt, x0, x1, x2⟩ := RL_kid3 hRL 0 x rfl
  rw [Nat.zero_mul] at x0 x1 x2
  have hx0 : ad.add 0 = ad := by unfold Addr.add; simp
  rw [hx0] at x0 x1 x2
  have HRT := Aside0.mk hrt
  obtain ⟨n, hn⟩ : ∃ n, (x :: r).length = n := ⟨_, rfl⟩
  have hn0 : 0 < n := by rw [← hn]; simp
  rw [hn] at hc1 ⊢
  have n1 : ((n : Int) == 0) = false := by rw [beq_eq_false_iff_ne]; omega
  have n2 : (0 : Int) < (n : Int) := by omega
  have f0 := HC1.out.frozen 0
  have f1 := HC1.out.frozen 1
  have f2 := HC1.out.frozen 2
  have z0 := HC1.out.cell 0 _ rfl
  have z1 := HC1.out.cell 1 _ rfl
  have z2 := HC1.out.cell 2 _ rfl
  obtain ⟨xw, hxw⟩ : ∃ v, x.word = v := ⟨_, rfl⟩
  obtain ⟨xl, hxl⟩ : ∃ v, x.list = v := ⟨_, rfl⟩
  obtain ⟨xk, hxk⟩ : ∃ v, x.kids.length = v := ⟨_, rfl⟩
  rw [hxw] at x0
  rw [hxl] at x1
  rw [hxk] at x2
  have hrt2 := HRT.out
  rw [hxw, hxl, hxk] at hrt2
  have HRT2 := Aside0.mk hrt2
  clear hw0 hB1 hRL hrt hx0 hn hn0 hxw hxl hxk hrt2
  go_wp2_with fail
  obtain ⟨wf, hwf⟩ : ∃ wf, ((w1.setCell ⟨W.heap.size, 0, none⟩ (.string xw)).setCell ⟨W.heap.size, 1, none⟩ (.bool xl)).setCell ⟨W.heap.size, 2, none⟩ (.slice a1 xk c1) = wf := ⟨_, rfl⟩
  have hm := ((Mod.refl (fun k => k = W.heap.size) w1).setCell (p := ⟨W.heap.size, 0, none⟩) (.inl rfl) (.string xw)).setCell (p := ⟨W.heap.size, 1, none⟩) (.inl rfl) (.bool xl) |>.setCell (p := ⟨W.heap.size, 2, none⟩) (.inl rfl) (.slice a1 xk c1)
  have HF := ((HC1.out.set 0 (.string xw)).set 1 (.bool xl)).set 2 (.slice a1 xk c1)
  rw [hwf] at hm HF ⊢
  have hrt3 : RT wf (NS W.heap.size wf) x [.string xw, .bool xl, .slice a1 xk c1] := RT_move (fun k hk => hm.keep k hk.1.2 (by have := hk.1.1; have := HLT.out; omega)) (fun k hk => by
    obtain ⟨l, hl⟩ := hk.2
    have hh := hm.keep k hk.1.2 (by have := hk.1.1; have := HLT.out; omega)
    exact ⟨by have := hk.1.1; have := HLT.out; omega, Nat.lt_of_lt_of_le hk.1.2 hm.size, l, hh.trans hl⟩) _ _ HRT2.out
  have hbf : Below W.heap.size W wf := HB1.out.trans (hm.belowB (fun k q => by omega) HB1.out.size)
  exact bodyPost_ret (results_cell_row rfl _ _ W.heap.size 49 #[.string xw, .bool xl, .slice a1 xk c1] (0, 0) _ rfl HF Tryz.underlying49 rfl (by kernel_rfl)) rfl ⟨⟨_, rfl, hrt3⟩, hbf⟩
def kW (l : List UInt8) : Sx := ⟨⟨l.toArray⟩, false, []⟩
def kL (l : List Sx) : Sx := ⟨⟨#[]⟩, true, l⟩
def kx1 : Sx := kL [kW [98, 118, 109, 117, 108], kW [97], kW [97]]
def kx2 : Sx := kL [kW [108, 101, 116], kL [kL [kW [121], kL [kW [98, 118, 97, 100, 100], kW [120], kW [120]]]], kL [kW [98, 118, 117, 108, 116], kW [121], kW [120]]]
def kx3 : Sx := kL [kW [102], kW [120]]
def kx4 : Sx := kL [kW [98, 118, 97, 100, 100], kW [120], kW [35, 98, 49]]
def kx5 : Sx := kW [121]
def kx6 : Sx := kL [kW [95], kW [66, 105, 116, 86, 101, 99], kW [56]]
theorem kp1 : parse [40, 98, 118, 109, 117, 108, 32, 97, 32, 97, 41] = .ok [kx1] := by kernel_rfl
theorem kp2 : parse [40, 108, 101, 116, 32, 40, 40, 121, 32, 40, 98, 118, 97, 100, 100, 32, 120, 32, 120, 41, 41, 41, 32, 40, 98, 118, 117, 108, 116, 32, 121, 32, 120, 41, 41] = .ok [kx2] := by kernel_rfl
theorem kp3 : parse [40, 102, 32, 120, 41] = .ok [kx3] := by kernel_rfl
theorem kp4 : parse [40, 98, 118, 97, 100, 100, 32, 120, 32, 35, 98, 49, 41] = .ok [kx4] := by kernel_rfl
theorem kp5 : parse [121] = .ok [kx5] := by kernel_rfl
theorem kp6 : parse [40, 95, 32, 66, 105, 116, 86, 101, 99, 32, 56, 41] = .ok [kx6] := by kernel_rfl
def kn1 : Nd := ndV ⟨#[120]⟩ 4
def kn2 : Nd := { nd0 with op := 18, sort := 4, a := 1, b := 1 }
def kn3 : Nd := { nd0 with op := 29, sort := 0, a := 2, b := 1 }
def kn4 : Nd := { nd0 with op := 20, sort := 4, a := 1, b := 1 }
def kn5 : Nd := { nd0 with op := 1, sort := 1, w := 1, lo := 1 }
def kE1 : List Ent := [entD ⟨#[120]⟩ 4]
def kE : List Ent := [entD ⟨#[120]⟩ 4, ⟨⟨#[102]⟩, true, [(⟨#[97]⟩, 4)], 4, kx1⟩]
theorem kd1 : declF ⟨#[120]⟩ 4 ⟨[], ⟨50, []⟩, 0⟩ = (0, ⟨kE1, ⟨50, [kn1]⟩, 0⟩) := by kernel_rfl
theorem kd2 : defF ⟨#[102]⟩ [(⟨#[97]⟩, 4)] 4 kx1 ⟨kE1, ⟨50, [kn1]⟩, 0⟩ = (0, ⟨kE, ⟨50, [kn1]⟩, 1⟩) := by kernel_rfl
theorem kt2 : (termF kE kx2 ⟨50, [kn1]⟩).1 = (3, 0) ∧ (termF kE kx2 ⟨50, [kn1]⟩).2.G = ⟨50, [kn1, kn2, kn3]⟩ := ⟨by kernel_rfl, by kernel_rfl⟩
theorem kt3 : (termF kE kx3 ⟨50, [kn1, kn2, kn3]⟩).1 = (4, 0) ∧ (termF kE kx3 ⟨50, [kn1, kn2, kn3]⟩).2.G = ⟨50, [kn1, kn2, kn3, kn4]⟩ := ⟨by kernel_rfl, by kernel_rfl⟩
theorem kt4 : (termF kE kx4 ⟨50, [kn1, kn2, kn3, kn4]⟩).1 = (0, 30) ∧ (termF kE kx4 ⟨50, [kn1, kn2, kn3, kn4]⟩).2.G = ⟨50, [kn1, kn2, kn3, kn4, kn5]⟩ := ⟨by kernel_rfl, by kernel_rfl⟩
theorem kt5 : (termF kE kx5 ⟨50, [kn1, kn2, kn3, kn4, kn5]⟩).1 = (0, 51) ∧ (termF kE kx5 ⟨50, [kn1, kn2, kn3, kn4, kn5]⟩).2.G = ⟨50, [kn1, kn2, kn3, kn4, kn5]⟩ := ⟨by kernel_rfl, by kernel_rfl⟩
theorem kd6 : (declF ⟨#[102]⟩ 1 ⟨kE, ⟨50, [kn1, kn2, kn3, kn4, kn5]⟩, 1⟩).1 = 52 := by kernel_rfl
theorem ks6 : sortV 3 kx6 = .tuple #[.int .i64 8, .int .i64 0] := by kernel_rfl
theorem kv3 : nodeV (nodeAt [kn1, kn2, kn3, kn4, kn5] 3) = .tuple #[.agg #[.int .i64 29, .int .i64 0, .int .i64 2, .int .i64 1, .int .i64 0, .int .i64 0, .int .i64 0, .int .i64 0, .int .u64 0, .int .u64 0, .string ⟨#[]⟩], .bool true] := by kernel_rfl
theorem kv4 : nodeV (nodeAt [kn1, kn2, kn3, kn4, kn5] 4) = .tuple #[.agg #[.int .i64 20, .int .i64 4, .int .i64 1, .int .i64 1, .int .i64 0, .int .i64 0, .int .i64 0, .int .i64 0, .int .u64 0, .int .u64 0, .string ⟨#[]⟩], .bool true] := by kernel_rfl
theorem kb1 : nameB [120] = true := by kernel_rfl
theorem kb2 : nameB [98, 118, 97, 100, 100] = false := by kernel_rfl
theorem kl : (namesV kE).length = 1 := by kernel_rfl
theorem SS.tree {z : Zr} {w w' : World} {s : Sc} (h : SS z w s) {x : Sx} {cs : List Value} (hx : RT w' (NS w.heap.size w') x cs) : RT w' (fun k => NR z w' k ∧ k ≠ z.sb) x cs :=
  RT_move (fun _ _ => rfl) (fun k hk => by
    obtain ⟨l, hl⟩ := hk.2.2
    have := FX.fresh h hk.1 hl (by decide) (by decide) (by decide)
    exact ⟨this.1, this.2.1⟩) _ _ hx
set_option maxHeartbeats 40000000 in
theorem known5_any (W : World) (he : ErrV W) : Calls Tryz.prog 25 #[] W fun e W' => e = .returned (.bool true) ∧ Below W.heap.size W W' := by
  obtain ⟨x1, e1⟩ : ∃ x, x = kx1 := ⟨_, rfl⟩
  obtain ⟨x2, e2⟩ : ∃ x, x = kx2 := ⟨_, rfl⟩
  obtain ⟨x3, e3⟩ : ∃ x, x = kx3 := ⟨_, rfl⟩
  obtain ⟨x4, e4⟩ : ∃ x, x = kx4 := ⟨_, rfl⟩
  obtain ⟨x5, e5⟩ : ∃ x, x = kx5 := ⟨_, rfl⟩
  obtain ⟨x6, e6⟩ : ∃ x, x = kx6 := ⟨_, rfl⟩
  have hp1 := kp1
  have hp2 := kp2
  have hp3 := kp3
  have hp4 := kp4
  have hp5 := kp5
  have hp6 := kp6
  rw [← e1] at hp1
  rw [← e2] at hp2
  rw [← e3] at hp3
  rw [← e4] at hp4
  rw [← e5] at hp5
  rw [← e6] at hp6
  obtain ⟨s0, hs0⟩ : ∃ s : Sc, s = ⟨[], ⟨50, []⟩, 0⟩ := ⟨_, rfl⟩
  obtain ⟨s1, hs1⟩ : ∃ s : Sc, s = ⟨kE1, ⟨50, [kn1]⟩, 0⟩ := ⟨_, rfl⟩
  obtain ⟨s2, hs2⟩ : ∃ s : Sc, s = ⟨kE, ⟨50, [kn1]⟩, 1⟩ := ⟨_, rfl⟩
  obtain ⟨s3, hs3⟩ : ∃ s : Sc, s = ⟨kE, ⟨50, [kn1, kn2, kn3]⟩, 1⟩ := ⟨_, rfl⟩
  obtain ⟨s4, hs4⟩ : ∃ s : Sc, s = ⟨kE, ⟨50, [kn1, kn2, kn3, kn4]⟩, 1⟩ := ⟨_, rfl⟩
  obtain ⟨s5, hs5⟩ : ∃ s : Sc, s = ⟨kE, ⟨50, [kn1, kn2, kn3, kn4, kn5]⟩, 1⟩ := ⟨_, rfl⟩
  have D1 : declF ⟨#[120]⟩ 4 s0 = (0, s1) := by rw [hs0, hs1]; exact kd1
  have D2 : defF ⟨#[102]⟩ [(⟨#[97]⟩, 4)] 4 x1 s1 = (0, s2) := by rw [hs1, hs2, e1]; exact kd2
  have T2 : (termF s2.E x2 s2.G).1 = (3, 0) ∧ ({ s2 with G := (termF s2.E x2 s2.G).2.G } : Sc) = s3 := by rw [hs2, hs3, e2]; exact ⟨kt2.1, by rw [kt2.2]⟩
  have T3 : (termF s3.E x3 s3.G).1 = (4, 0) ∧ ({ s3 with G := (termF s3.E x3 s3.G).2.G } : Sc) = s4 := by rw [hs3, hs4, e3]; exact ⟨kt3.1, by rw [kt3.2]⟩
  have T4 : (termF s4.E x4 s4.G).1 = (0, 30) ∧ ({ s4 with G := (termF s4.E x4 s4.G).2.G } : Sc) = s5 := by rw [hs4, hs5, e4]; exact ⟨kt4.1, by rw [kt4.2]⟩
  have T5 : (termF s5.E x5 s5.G).1 = (0, 51) ∧ ({ s5 with G := (termF s5.E x5 s5.G).2.G } : Sc) = s5 := by rw [hs5, e5]; exact ⟨kt5.1, by rw [kt5.2]⟩
  have D6 : (declF ⟨#[102]⟩ 1 s5).1 = 52 := by rw [hs5]; exact kd6
  have S6 : sortV 3 x6 = .tuple #[.int .i64 8, .int .i64 0] := by rw [e6]; exact ks6
  have V3 := kv3
  have V4 := kv4
  rw [show [kn1, kn2, kn3, kn4, kn5] = s5.G.l by rw [hs5]] at V3 V4
  have L5 : (namesV s5.E).length = 1 := by rw [hs5]; exact kl
  have E0 : s0.E.length < 999999 := by rw [hs0]; decide
  have E1 : s1.E.length < 999999 ∧ s1.defs ≤ 1000000 := by rw [hs1]; exact ⟨by decide, by decide⟩
  have E5 : s5.E.length < 999999 := by rw [hs5]; decide
  have HE := Aside0.mk he
  have HP1 := Aside0.mk hp1
  have HP2 := Aside0.mk hp2
  have HP3 := Aside0.mk hp3
  have HP4 := Aside0.mk hp4
  have HP5 := Aside0.mk hp5
  have HP6 := Aside0.mk hp6
  have D1 := Aside0.mk D1
  have D2 := Aside0.mk D2
  have T2 := Aside0.mk T2
  have T3 := Aside0.mk T3
  have T4 := Aside0.mk T4
  have T5 := Aside0.mk T5
  have D6 := Aside0.mk D6
  have S6 := Aside0.mk S6
  have V3 := Aside0.mk V3
  have V4 := Aside0.mk V4
  have L5 := Aside0.mk L5
  have E0 := Aside0.mk E0
  have E1 := Aside0.mk E1
  have E5 := Aside0.mk E5
  have HS0 := Aside0.mk hs0
  clear hp1 hp2 hp3 hp4 hp5 hp6 e1 e2 e3 e4 e5 e6 hs0 hs1 hs2 hs3 hs4 hs5 he
  go_enter Tryz.func25, Tryz.ntmps25
  go_wp2_with fail
  refine (tNew_any50 W).mono ?_
  rintro e w3 ⟨g, bi, bn, rfl, hG, hB3⟩
  have HB3 := Aside0.mk hB3
  have HG := Aside0.mk hG
  clear hG hB3
  go_wp2_with fail
  refine (rNew_any w3 g).mono ?_
  rintro e w4 ⟨sb, ab, rfl, hsc, hab, h1, h2, hB4⟩
  have hB04 := HB3.out.trans (hB4.mono HB3.out.size)
  have heb : 3 < W.heap.size := by
    obtain ⟨ev, h3, _⟩ := HE.out
    exact World.block_lt_of_cell? W _ h3
  have hs4 := SS.start HG.out hB4 HB3.out.size hsc hab h1 h2 (HE.out.below hB04) heb
  rw [← HS0.out] at hs4
  obtain ⟨z, hz⟩ : ∃ z : Zr, z = ⟨W.heap.size, g, bi, bn, sb, g, ab⟩ := ⟨_, rfl⟩
  rw [← hz] at hs4
  have hzs : sb = z.sb := by rw [hz]
  have hzg : g = z.g := by rw [hz]
  have hzb : z.B = W.heap.size := by rw [hz]
  clear hz hsc hab h1 h2 hB4 heb HG
  subst hzs hzg
  have HZB := Aside0.mk hzb
  have HS4 := Aside0.mk hs4
  have HB4 := Aside0.mk hB04
  clear hs4 hzb hB04
  go_wp2_with fail
  refine (Declare_any z w4 s0 ⟨#[120]⟩ 4 HS4.out (by rw [HZB.out]; exact HB4.out.size) (by decide) (by unfold i64ok; omega) E0.out).mono ?_
  rintro e w5 ⟨rfl, hS5, _, hB5⟩
  rw [D1.out] at hS5 ⊢
  dsimp only at hS5 ⊢
  have HS5 := Aside0.mk hS5
  have HB5 := Aside0.mk (HB4.out.trans (HZB.out ▸ hB5))
  clear hS5 hB5
  obtain ⟨w6, hw6⟩ : ∃ w6, w5.alloc (.cells #[.string ⟨#[97]⟩, .int .i64 4] 77) = w6 := ⟨_, rfl⟩
  have hb6 : Below w5.heap.size w5 w6 := by rw [← hw6]; exact (Below.refl _ w5).alloc (Nat.le_refl _) _
  obtain ⟨bp, hbp⟩ : ∃ bp, w5.heap.size = bp := ⟨_, rfl⟩
  have HC6 : Aside0 (Cells w6 bp 77 [.string ⟨#[97]⟩, .int .i64 4]) := ⟨by rw [← hw6, ← hbp]; exact Cells.new w5 _ _⟩
  have HBP : Aside0 (w5.heap.size = bp) := ⟨hbp⟩
  have HB56 := Aside0.mk hb6
  have HS6 := Aside0.mk (HS5.out.below hb6)
  have HB6 := Aside0.mk (HB5.out.trans (hb6.mono HB5.out.size))
  clear hb6
  go_wp2_with fail
  try rw [hw6]
  try rw [hbp]
  clear hw6 hbp
  refine (parsed_any ⟨#[40, 98, 118, 109, 117, 108, 32, 97, 32, 97, 41]⟩ x1 [] HP1.out (by decide) _).mono ?_
  rintro e w7 ⟨⟨c1, rfl, hrt⟩, hB7⟩
  have hrt2 := HS6.out.tree hrt
  obtain ⟨a1, k1, rfl, _, _, _, _⟩ := RT_cells hrt2
  have HRT := Aside0.mk hrt2
  have HS7 := Aside0.mk (HS6.out.below hB7)
  have HC7 := Aside0.mk (HC6.out.below hB7)
  have HB7 := Aside0.mk (HB6.out.trans (hB7.mono HB6.out.size))
  clear hrt hrt2 hB7
  go_wp2_with fail
  refine (Define_any z w7 s1 ⟨#[102]⟩ [(⟨#[97]⟩, 4)] (some ⟨bp, 0, none⟩) 1 4 x1 a1 k1 HS7.out (by rw [HZB.out]; exact HB7.out.size) (by decide) (by unfold i64ok; omega) E1.out.1 E1.out.2 (by decide) (by decide) (by decide) (fun j p hj => ?_) HRT.out).mono ?_
  · have hj0 : j = 0 := by have := (List.getElem?_eq_some_iff.1 hj).1; simpa using this
    subst hj0
    have : p = (⟨#[97]⟩, 4) := by simpa using hj.symm
    subst this
    have hfx := FX.fresh HS5.out (Nat.le_of_eq HBP.out) HC7.out (by decide) (by decide) (by decide)
    exact ⟨by decide, by unfold i64ok; omega, ⟨bp, 0, none⟩, rfl, ⟨hfx.1, hfx.2.1⟩, HC7.out.cell 0 _ rfl, HC7.out.cell 1 _ rfl⟩
  rintro e wd ⟨rfl, hS, _, hB⟩
  rw [D2.out] at hS ⊢
  dsimp only at hS ⊢
  have HSd := Aside0.mk hS
  have HBd := Aside0.mk (HB7.out.trans (HZB.out ▸ hB))
  clear hS hB
  go_wp2_with fail
  refine (parsed_any ⟨#[40, 108, 101, 116, 32, 40, 40, 121, 32, 40, 98, 118, 97, 100, 100, 32, 120, 32, 120, 41, 41, 41, 32, 40, 98, 118, 117, 108, 116, 32, 121, 32, 120, 41, 41]⟩ x2 [] HP2.out (by decide) _).mono ?_
  rintro e wp2 ⟨⟨c1, rfl, hrt⟩, hB⟩
  have hrt2 := HSd.out.tree hrt
  obtain ⟨a2, k2, rfl, _, _, _, _⟩ := RT_cells hrt2
  have HRT := Aside0.mk (RT_move (S' := NR z wp2) (fun _ _ => rfl) (fun _ q => q.1) _ _ hrt2)
  have HSp2 := Aside0.mk (HSd.out.below hB)
  have HBp2 := Aside0.mk (HBd.out.trans (hB.mono HBd.out.size))
  clear hrt hrt2 hB
  go_wp2_with fail
  refine (Term_any z wp2 s2 x2 _ HSp2.out (by rw [HZB.out]; exact HBp2.out.size) HRT.out).mono ?_
  rintro e wt2 ⟨rfl, hS, _, hB⟩
  rw [T2.out.1]
  rw [T2.out.2] at hS
  dsimp only
  have HSt2 := Aside0.mk hS
  have HBt2 := Aside0.mk (HBp2.out.trans (HZB.out ▸ hB))
  clear hS hB
  go_wp2_with fail
  refine (parsed_any ⟨#[40, 102, 32, 120, 41]⟩ x3 [] HP3.out (by decide) _).mono ?_
  rintro e wp3 ⟨⟨c1, rfl, hrt⟩, hB⟩
  have hrt2 := HSt2.out.tree hrt
  obtain ⟨a3, k3, rfl, _, _, _, _⟩ := RT_cells hrt2
  have HRT := Aside0.mk (RT_move (S' := NR z wp3) (fun _ _ => rfl) (fun _ q => q.1) _ _ hrt2)
  have HSp3 := Aside0.mk (HSt2.out.below hB)
  have HBp3 := Aside0.mk (HBt2.out.trans (hB.mono HBt2.out.size))
  clear hrt hrt2 hB
  go_wp2_with fail
  refine (Term_any z wp3 s3 x3 _ HSp3.out (by rw [HZB.out]; exact HBp3.out.size) HRT.out).mono ?_
  rintro e wt3 ⟨rfl, hS, _, hB⟩
  rw [T3.out.1]
  rw [T3.out.2] at hS
  dsimp only
  have HSt3 := Aside0.mk hS
  have HBt3 := Aside0.mk (HBp3.out.trans (HZB.out ▸ hB))
  clear hS hB
  go_wp2_with fail
  refine (parsed_any ⟨#[40, 98, 118, 97, 100, 100, 32, 120, 32, 35, 98, 49, 41]⟩ x4 [] HP4.out (by decide) _).mono ?_
  rintro e wp4 ⟨⟨c1, rfl, hrt⟩, hB⟩
  have hrt2 := HSt3.out.tree hrt
  obtain ⟨a4, k4, rfl, _, _, _, _⟩ := RT_cells hrt2
  have HRT := Aside0.mk (RT_move (S' := NR z wp4) (fun _ _ => rfl) (fun _ q => q.1) _ _ hrt2)
  have HSp4 := Aside0.mk (HSt3.out.below hB)
  have HBp4 := Aside0.mk (HBt3.out.trans (hB.mono HBt3.out.size))
  clear hrt hrt2 hB
  go_wp2_with fail
  refine (Term_any z wp4 s4 x4 _ HSp4.out (by rw [HZB.out]; exact HBp4.out.size) HRT.out).mono ?_
  rintro e wt4 ⟨rfl, hS, _, hB⟩
  rw [T4.out.1]
  rw [T4.out.2] at hS
  dsimp only
  have HSt4 := Aside0.mk hS
  have HBt4 := Aside0.mk (HBp4.out.trans (HZB.out ▸ hB))
  clear hS hB
  go_wp2_with fail
  refine (parsed_any ⟨#[121]⟩ x5 [] HP5.out (by decide) _).mono ?_
  rintro e wp5 ⟨⟨c1, rfl, hrt⟩, hB⟩
  have hrt2 := HSt4.out.tree hrt
  obtain ⟨a5, k5, rfl, _, _, _, _⟩ := RT_cells hrt2
  have HRT := Aside0.mk (RT_move (S' := NR z wp5) (fun _ _ => rfl) (fun _ q => q.1) _ _ hrt2)
  have HSp5 := Aside0.mk (HSt4.out.below hB)
  have HBp5 := Aside0.mk (HBt4.out.trans (hB.mono HBt4.out.size))
  clear hrt hrt2 hB
  go_wp2_with fail
  refine (Term_any z wp5 s5 x5 _ HSp5.out (by rw [HZB.out]; exact HBp5.out.size) HRT.out).mono ?_
  rintro e wt5 ⟨rfl, hS, _, hB⟩
  rw [T5.out.1]
  rw [T5.out.2] at hS
  dsimp only
  have HSt5 := Aside0.mk hS
  have HBt5 := Aside0.mk (HBp5.out.trans (HZB.out ▸ hB))
  clear hS hB
  go_wp2_with fail
  obtain ⟨vn, hg⟩ := HSt5.out.gi
  have HG := Aside0.mk hg
  refine (Node_any z.B z.g z.bi z.bn s5.G vn 3 wt5 hg (by unfold i64ok; omega)).mono ?_
  rintro e w10 ⟨rfl, hB⟩
  rw [V3.out]
  have hb11 := hB.alloc hB.size (.cells #[.int .i64 29, .int .i64 0, .int .i64 2, .int .i64 1, .int .i64 0, .int .i64 0, .int .i64 0, .int .i64 0, .int .u64 0, .int .u64 0, .string ⟨#[]⟩] 112)
  have hc11 := Cells.new w10 112 [.int .i64 29, .int .i64 0, .int .i64 2, .int .i64 1, .int .i64 0, .int .i64 0, .int .i64 0, .int .i64 0, .int .u64 0, .int .u64 0, .string ⟨#[]⟩]
  clear hg hB
  go_wp2_with fail
  obtain ⟨w11, hw11⟩ : ∃ w11, w10.alloc (.cells #[.int .i64 29, .int .i64 0, .int .i64 2, .int .i64 1, .int .i64 0, .int .i64 0, .int .i64 0, .int .i64 0, .int .u64 0, .int .u64 0, .string ⟨#[]⟩] 112) = w11 := ⟨_, rfl⟩
  obtain ⟨b13, hb13⟩ : ∃ b, w10.heap.size = b := ⟨_, rfl⟩
  rw [hw11] at hb11 hc11
  rw [hb13] at hc11
  try rw [hw11]
  try rw [hb13]
  have HC13 : Aside0 (Cells w11 b13 112 [.int .i64 29, .int .i64 0, .int .i64 2, .int .i64 1, .int .i64 0, .int .i64 0, .int .i64 0, .int .i64 0, .int .u64 0, .int .u64 0, .string ⟨#[]⟩]) := ⟨hc11⟩
  have HB11 := Aside0.mk hb11
  clear hw11 hb13 hb11 hc11
  refine (Node_any z.B z.g z.bi z.bn s5.G vn 4 w11 (HG.out.below HB11.out) (by unfold i64ok; omega)).mono ?_
  rintro e w12 ⟨rfl, hB⟩
  rw [V4.out]
  have hb13 := hB.alloc hB.size (.cells #[.int .i64 20, .int .i64 4, .int .i64 1, .int .i64 1, .int .i64 0, .int .i64 0, .int .i64 0, .int .i64 0, .int .u64 0, .int .u64 0, .string ⟨#[]⟩] 112)
  have hc13 := Cells.new w12 112 [.int .i64 20, .int .i64 4, .int .i64 1, .int .i64 1, .int .i64 0, .int .i64 0, .int .i64 0, .int .i64 0, .int .u64 0, .int .u64 0, .string ⟨#[]⟩]
  clear hB
  go_wp2_with fail
  obtain ⟨w13, hw13⟩ : ∃ w13, w12.alloc (.cells #[.int .i64 20, .int .i64 4, .int .i64 1, .int .i64 1, .int .i64 0, .int .i64 0, .int .i64 0, .int .i64 0, .int .u64 0, .int .u64 0, .string ⟨#[]⟩] 112) = w13 := ⟨_, rfl⟩
  obtain ⟨b15, hb15⟩ : ∃ b, w12.heap.size = b := ⟨_, rfl⟩
  rw [hw13] at hb13 hc13
  rw [hb15] at hc13
  try rw [hw13]
  try rw [hb15]
  have HC15 : Aside0 (Cells w13 b15 112 [.int .i64 20, .int .i64 4, .int .i64 1, .int .i64 1, .int .i64 0, .int .i64 0, .int .i64 0, .int .i64 0, .int .u64 0, .int .u64 0, .string ⟨#[]⟩]) := ⟨hc13⟩
  have HC132 := Aside0.mk (HC13.out.below hb13)
  have HB13 := Aside0.mk (HB11.out.trans (hb13.mono HB11.out.size))
  clear hw13 hb15 hb13 hc13
  refine (parsed_any ⟨#[40, 95, 32, 66, 105, 116, 86, 101, 99, 32, 56, 41]⟩ x6 [] HP6.out (by decide) _).mono ?_
  rintro e w14 ⟨⟨c1, rfl, hrt⟩, hB⟩
  obtain ⟨a6, k6, rfl, _, _, _, _⟩ := RT_cells hrt
  have HRT6 := Aside0.mk (RT_move (S' := fun k => k < w14.heap.size) (fun _ _ => rfl) (fun _ q => q.2.1) _ _ hrt)
  have HC133 := Aside0.mk (HC132.out.below hB)
  have HC153 := Aside0.mk (HC15.out.below hB)
  have HB14 := Aside0.mk (HB13.out.trans (hB.mono HB13.out.size))
  clear hrt hB
  go_wp2_with fail
  refine (rSortP_any x6 _ w14 HRT6.out).mono ?_
  rintro e w15 ⟨rfl, hB⟩
  rw [S6.out]
  have HC134 := Aside0.mk (HC133.out.below hB)
  have HC154 := Aside0.mk (HC153.out.below hB)
  have HB15 := Aside0.mk (HB14.out.trans (hB.mono HB14.out.size))
  have q0 := HC134.out.cell 0 _ rfl
  have q3 := HC134.out.cell 3 _ rfl
  have r0 := HC154.out.cell 0 _ rfl
  have r1 := HC154.out.cell 1 _ rfl
  have r2 := HC154.out.cell 2 _ rfl
  have r3 := HC154.out.cell 3 _ rfl
  have r4 := HC154.out.cell 4 _ rfl
  have r5 := HC154.out.cell 5 _ rfl
  have r6 := HC154.out.cell 6 _ rfl
  have r7 := HC154.out.cell 7 _ rfl
  have r8 := HC154.out.cell 8 _ rfl
  have r9 := HC154.out.cell 9 _ rfl
  have r10 := HC154.out.cell 10 _ rfl
  clear hB
  go_wp2_with fail
  refine (readName_any ⟨#[120]⟩ _ (by decide)).mono ?_
  rintro e w16 ⟨rfl, hB⟩
  rw [show nameB (⟨#[120]⟩ : ByteArray).data.toList = true from kb1]
  have HB16 := Aside0.mk (HB15.out.trans (hB.mono HB15.out.size))
  clear hB q0 q3 r0 r1 r2 r3 r4 r5 r6 r7 r8 r9 r10
  go_wp2_with fail
  refine (readName_any ⟨#[98, 118, 97, 100, 100]⟩ _ (by decide)).mono ?_
  rintro e w17 ⟨rfl, hB⟩
  rw [show nameB (⟨#[98, 118, 97, 100, 100]⟩ : ByteArray).data.toList = false from kb2]
  have HB17 := Aside0.mk (HB16.out.trans (hB.mono HB16.out.size))
  clear hB
  go_wp2_with fail
  have HS17 := Aside0.mk (HSt5.out.below HB17.out)
  refine (Names_any z w17 s5 HS17.out).mono ?_
  rintro e w18 ⟨⟨v18, rfl, hrow⟩, hB⟩
  rw [L5.out] at hrow
  obtain ⟨g18, k18, _, rfl, _, _, _, _, _⟩ := own_row hrow (by decide)
  have HB18 := Aside0.mk (HB17.out.trans (hB.mono HB17.out.size))
  have HS18 := Aside0.mk (HS17.out.below hB)
  clear hrow hB
  go_wp2_with fail
  refine (Declare_any z w18 s5 ⟨#[102]⟩ 1 HS18.out (by rw [HZB.out]; exact Nat.le_trans HBt5.out.size HB18.out.size) (by decide) (by unfold i64ok; omega) E5.out).mono ?_
  rintro e w19 ⟨rfl, _, _, hB⟩
  rw [D6.out]
  have HBF := Aside0.mk ((HBt5.out.trans (HB18.out.mono HBt5.out.size)).trans (HZB.out ▸ hB))
  clear hB
  go_wp2_with fail
  go_returns
  exact ⟨rfl, HBF.out⟩
end Go.Proofs.YthhnhbpmpdminaaGreatDoor
