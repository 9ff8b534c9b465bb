/-
read.worker: bits. Conditions: the reader in memory.
-/
import Derived.Test.YthhnhbpmpdminaaGreatDoorRls
import Derived.Test.YthhnhbpmpdminaaGreatDoorGtt
namespace Go.Proofs.YthhnhbpmpdminaaGreatDoor
set_option maxRecDepth 4096
set_option maxHeartbeats 8000000
set_option linter.unusedSimpArgs false
set_option linter.unusedVariables false
set_option linter.unnecessarySimpa false
open Go.RowKit Go.Proofs.YthhnhbpmpdminaaGreatDoorW.PrintWords Go.Maps PReadTwice
/-- What decimal digits spell, modulo 2 to the 128. -/
def stepM (v : Nat) (b : UInt8) : Nat := (v * 10 % 340282366920938463463374607431768211456 + (b.toNat - 48)) % 340282366920938463463374607431768211456
def decM (v : Nat) (l : List UInt8) : Nat := l.foldl stepM v
theorem decM_nil (v : Nat) : decM v [] = v := by unfold decM; rw [List.foldl_nil]
theorem decM_cons (v : Nat) (b : UInt8) (r : List UInt8) : decM v (b :: r) = decM (stepM v b) r := by unfold decM; rw [List.foldl_cons]
theorem pow128 : (2 : Nat) ^ 128 = 340282366920938463463374607431768211456 := by decide
theorem decM_step (a d : Nat) : (a % 340282366920938463463374607431768211456 * 10 % 340282366920938463463374607431768211456 + d) % 340282366920938463463374607431768211456 = (a * 10 + d) % 340282366920938463463374607431768211456 := by omega
theorem decM_eq (l : List UInt8) : ∀ (acc n : Nat), Lib.decFrom acc l = some n → decM (acc % 340282366920938463463374607431768211456) l = n % 340282366920938463463374607431768211456 := by
  induction l with
  | nil =>
    intro acc n h
    have : acc = n := by simpa [Lib.decFrom] using h
    subst this
    exact decM_nil _
  | cons b r ih =>
    intro acc n h
    unfold Lib.decFrom at h
    cases hd : Lib.digitVal b with
    | none => rw [hd] at h; cases h
    | some d =>
      rw [hd] at h
      have hh : Lib.decFrom (acc * 10 + d) r = some n := h
      have hb : b.toNat - 48 = d := by
        unfold Lib.digitVal at hd
        split at hd
        · exact Option.some.inj hd
        · cases hd
      have e := ih _ n hh
      rw [decM_cons]
      unfold stepM
      rw [hb, decM_step]
      exact e
theorem digit_range {l : List UInt8} {n : Nat} (h : Lib.decNat l = some n) : ∀ b ∈ l, 48 ≤ b.toNat ∧ b.toNat ≤ 57 := fun b hb => by
  have := decFrom_all _ _ _ (Lib.decNat_some h).2 b hb
  unfold Lib.digitVal at this
  split at this
  · assumption
  · cases this
theorem New128_any (n : Nat) (hn : n < 2 ^ 128) (W : World) : Calls Tryz.prog 203 #[.int .i64 128, .int .u64 (nlo n), .int .u64 (nhi n)] W fun e W' => e = .returned (.tuple #[bitsV 128 n, .int .i64 0]) ∧ Below W.heap.size W W' := by
  have h := New_any 128 n hn W
  rw [if_neg (by decide), show (128 : Int).toNat = 128 from rfl, Nat.mod_eq_of_lt hn] at h
  exact h
theorem New128d_any (d : Nat) (hd : d ≤ 10) (W : World) : Calls Tryz.prog 203 #[.int .i64 128, .int .u64 (d : Int), .int .u64 0] W fun e W' => e = .returned (.tuple #[bitsV 128 d, .int .i64 0]) ∧ Below W.heap.size W W' := by
  have h := New128_any d (by rw [pow128]; omega) W
  rw [show nlo d = (d : Int) by unfold nlo; omega, show nhi d = 0 by unfold nhi; omega] at h
  exact h
theorem cell_below {w w' : World} {a : Addr} {u : Value} (hB : Below w.heap.size w w') (h : w.cell? a = some u) : w'.cell? a = some u := (World.cell?_of_block (w := w) (hB.block _ (World.block_lt_of_cell? w _ h))).trans h
section
variable (z : Zr) (w : World) (E : List Ent) (vl : Value) (cs : List Value) (defs : Int) (r : Rd)
theorem bits_any : BitsC z E vl cs defs := by
  intro w r l A c h hB hl hlc hcc hn
  obtain ⟨R, hR⟩ : ∃ R, bitsF l r = R := ⟨_, rfl⟩
  rw [hR]
  have HH := Aside0.mk h
  have HRL := Aside0.mk hl
  clear h hl
  by_cases h2 : l.length = 2
  · obtain ⟨x, y, rfl⟩ : ∃ x y, l = [x, y] := by
      match l, h2 with
      | [x, y], _ => exact ⟨x, y, rfl⟩
    rw [show ([x, y] : List Sx).length = 2 from rfl] at *
    obtain ⟨ad, a1, c1, rfl, had, hrtx, x0, x1, x2⟩ := RL_kid3 HRL.out 0 x rfl
    obtain ⟨ad', a2, c2, hq, _, hrty, y0, y1, y2⟩ := RL_kid3 HRL.out 1 y rfl
    cases hq
    rw [Nat.zero_mul] at x0 x1 x2
    have hx0 : ad.add 0 = ad := by unfold Addr.add; simp
    rw [hx0] at x0 x1 x2
    have hy0 : ad.add (1 * 3) = ⟨ad.block, ad.off + 3, none⟩ := by unfold Addr.add; simp
    rw [hy0] at y0 y1 y2
    dsimp only at y0 y1 y2
    obtain ⟨_, _, _, _, _, hxz, _⟩ := RT_cells hrtx
    obtain ⟨_, _, _, _, _, hyz, _⟩ := RT_cells hrty
    have hR2 := hR
    unfold bitsF at hR2
    dsimp only at hR2
    obtain ⟨xw, hxw⟩ : ∃ v, x.word = v := ⟨_, rfl⟩
    rw [hxw] at hR2 x0 hxz
    obtain ⟨yw, hyw⟩ : ∃ v, y.word = v := ⟨_, rfl⟩
    rw [hyw] at hR2 y0 hyz
    obtain ⟨yl, hyl⟩ : ∃ v, y.list = v := ⟨_, rfl⟩
    rw [hyl] at hR2 y1
    have HNY := fun W hev => numeralG_any 9 (by decide) yw yl a2 y.kids.length c2 W hyz hev
    obtain ⟨ykl, hykl⟩ : ∃ v, y.kids.length = v := ⟨_, rfl⟩
    rw [hykl] at y2 HNY
    clear hR hrtx hrty hx0 hy0 had h2 hxw hyw hyl hykl
    cases hxl : x.list with
    | true =>
      rw [hxl] at hR2 x1
      have HF : Aside0 (failF 50 r = R) := ⟨by rw [if_pos (.inl rfl)] at hR2; exact hR2⟩
      clear hR2 hxl HNY
      go_enter Tryz.func152, Tryz.ntmps152
      go_wp2_with fail
      go_returns
      rw [← HF.out]
      exact RPost.new HH.out (Below.refl _ _) hB 0 50
    | false =>
      rw [hxl] at hR2 x1
      clear hxl
      have HP := Aside0.mk (fun W => HasPrefix_any xw 98 118 W)
      by_cases hp : xw.data.toList.take 2 = [98, 118]
      · have hpb : (xw.data.toList.take 2 == [98, 118]) = true := by rw [hp]; rfl
        rw [hpb] at HP
        have hsz : 2 ≤ xw.size := by
          have := congrArg List.length hp
          have hl : xw.data.toList.length = xw.size := by rw [Array.length_toList]; rfl
          simp only [List.length_take, List.length_cons, List.length_nil] at this; omega
        rw [if_neg (fun q => q.elim (fun q => by cases q) (fun q => q hp))] at hR2
        clear hp hpb
        obtain ⟨s2, hs2⟩ : ∃ t, xw.extract 2 xw.size = t := ⟨_, rfl⟩
        have hl2 : s2.data.toList.length = s2.size := by rw [Array.length_toList]; rfl
        have hs2l : s2.data.toList = xw.data.toList.drop 2 := by
          have hl : xw.data.toList.length = xw.size := by rw [Array.length_toList]; rfl
          rw [← hs2, ext_list, List.take_of_length_le (by omega)]
        have hs2z : s2.size ≤ 9223372036854775807 := by
          have hl : xw.data.toList.length = xw.size := by rw [Array.length_toList]; rfl
          rw [← hl2, hs2l, List.length_drop]; omega
        rw [← hs2l] at hR2
        have HNX := fun W hev => numeralG_any 39 (by decide) s2 false none 0 0 W hs2z hev
        unfold NumPost at HNX HNY
        obtain ⟨OX, hOX⟩ : ∃ o, numX 39 false s2 = o := ⟨_, rfl⟩
        obtain ⟨OY, hOY⟩ : ∃ o, numX 9 yl yw = o := ⟨_, rfl⟩
        rw [hOX] at HNX
        rw [hOY] at HNY
        have hOX2 : numO 39 s2.data.toList = OX := by unfold numX at hOX; exact hOX
        have hOY2 : (if yl = true then none else numO 9 yw.data.toList) = OY := by rw [← hOY]; rfl
        rw [hOX2, hOY2] at hR2
        have HNX := Aside0.mk HNX
        have HNY := Aside0.mk HNY
        have HR2 := Aside0.mk hR2
        have HO := Aside0.mk hOX2
        have HL2 := Aside0.mk hl2
        have hle : ((2 : Int) ≤ (xw.size : Int)) := by omega
        clear hR2 hs2l hs2z hOX hOY hOX2 hOY2 hl2 hxz hyz
        go_enter Tryz.func152, Tryz.ntmps152
        go_wp2_with fail
        refine (HP.out _).mono ?_
        rintro e w1 ⟨rfl, hB1⟩
        have HB1 := Aside0.mk hB1
        have X0 := Aside0.mk x0
        have Y0 := Aside0.mk y0
        have Y1 := Aside0.mk y1
        have Y2 := Aside0.mk y2
        clear hB1 x0 x1 x2 y0 y1 y2
        have x0 := cell_below HB1.out X0.out
        go_wp2_with fail
        refine (HNX.out _ (HH.out.sc.err.below HB1.out)).mono ?_
        rintro e w2 ⟨⟨m1, rfl, _⟩, hB2⟩
        have HB2 := Aside0.mk (HB1.out.trans (hB2.mono HB1.out.size))
        clear hB2 x0
        have y0 := cell_below HB2.out Y0.out
        have y1 := cell_below HB2.out Y1.out
        have y2 := cell_below HB2.out Y2.out
        go_wp2_with fail
        refine (HNY.out _ (HH.out.sc.err.below HB2.out)).mono ?_
        rintro e w3 ⟨⟨m2, rfl, hm2⟩, hB3⟩
        have HB3 := Aside0.mk (HB2.out.trans (hB3.mono HB2.out.size))
        clear hB3 y0 y1 y2
        cases OX with
        | none =>
          have HF : Aside0 (failF 50 r = R) := ⟨HR2.out⟩
          clear hm2
          go_wp2_with fail
          go_returns
          rw [← HF.out]
          exact RPost.new HH.out HB3.out hB 0 50
        | some n =>
          cases OY with
          | none =>
            have HF : Aside0 (failF 50 r = R) := ⟨HR2.out⟩
            clear hm2
            go_wp2_with fail
            go_returns
            rw [← HF.out]
            exact RPost.new HH.out HB3.out hB 0 50
          | some k =>
            have hmk : m2 = (k : Int) := hm2 k (by decide) rfl
            subst hmk
            clear hm2
            have hR3 := HR2.out
            dsimp only at hR3
            by_cases hk1 : k < 1
            · have k1 : (k : Int) < 1 := by omega
              have HF : Aside0 (failF 31 r = R) := ⟨by rw [if_pos (.inl hk1)] at hR3; exact hR3⟩
              clear hk1 hR3
              go_wp2_with fail
              go_returns
              rw [← HF.out]
              exact RPost.new HH.out HB3.out hB 0 31
            · by_cases hk2 : 128 < k
              · have k1 : ¬ (k : Int) < 1 := by omega
                have k2 : 128 < (k : Int) := by omega
                have HF : Aside0 (failF 31 r = R) := ⟨by rw [if_pos (.inr hk2)] at hR3; exact hR3⟩
                clear hk1 hk2 hR3
                go_wp2_with fail
                go_returns
                rw [← HF.out]
                exact RPost.new HH.out HB3.out hB 0 31
              · have k1 : ¬ (k : Int) < 1 := by omega
                have k2 : ¬ 128 < (k : Int) := by omega
                have HF : Aside0 (constF ⟨k, n % 2 ^ k⟩ r = R) := ⟨by rw [if_neg (by omega)] at hR3; exact hR3⟩
                have HK : Aside0 (1 ≤ k ∧ k ≤ 128) := ⟨by omega⟩
                have hdn : Lib.decNat s2.data.toList = some n := by
                  have := HO.out
                  unfold numO at this
                  split at this
                  · exact this
                  · cases this
                have hs39 : s2.size ≤ 39 := by
                  have := HO.out
                  unfold numO at this
                  split at this
                  · next q => have := HL2.out; omega
                  · cases this
                have HDG := Aside0.mk (digit_range hdn)
                have HDM : Aside0 (decM 0 s2.data.toList = n % 340282366920938463463374607431768211456) := ⟨decM_eq _ 0 n (Lib.decNat_some hdn).2⟩
                clear hk1 hk2 hR3 hdn
                go_wp2_with fail
                refine (New128d_any 10 (by omega) _).mono ?_
                rintro e w4 ⟨rfl, hB4⟩
                have HB4 := Aside0.mk (HB3.out.trans (hB4.mono HB3.out.size))
                clear hB4
                unfold bitsV
                go_wp2_with fail
                refine (New128d_any 0 (by omega) _).mono ?_
                rintro e w5 ⟨rfl, hB5⟩
                have hb4 := HB4.out.alloc HB4.out.size (.cells #[.int .i64 128, .int .u64 (nlo 10), .int .u64 (nhi 10)] 110)
                have hc4 := (Cells.new w4 110 [.int .i64 128, .int .u64 (nlo 10), .int .u64 (nhi 10)]).below hB5
                have hb5 := hb4.trans (hB5.mono hb4.size)
                have hb6 := hb5.alloc hb5.size (.cells #[.int .i64 128, .int .u64 (nlo 0), .int .u64 (nhi 0)] 110)
                have hc6 := hc4.alloc (.cells #[.int .i64 128, .int .u64 (nlo 0), .int .u64 (nhi 0)] 110)
                have hc5 := Cells.new w5 110 [.int .i64 128, .int .u64 (nlo 0), .int .u64 (nhi 0)]
                have HSZ : Aside0 (w4.heap.size < w5.heap.size) := ⟨by have := hB5.size; simp at this; omega⟩
                clear hB5 hb4 hc4 hb5
                unfold bitsV
                go_wp2_with fail
                obtain ⟨w6, hw6⟩ : ∃ w6, w5.alloc (.cells #[.int .i64 128, .int .u64 (nlo 0), .int .u64 (nhi 0)] 110) = w6 := ⟨_, rfl⟩
                rw [hw6] at hb6 hc6 hc5
                try rw [hw6]
                have HB6 := Aside0.mk hb6
                have HC6 := Aside0.mk hc6
                have HC5 := Aside0.mk hc5
                have HS39 := Aside0.mk hs39
                clear hb6 hc6 hc5 hw6
                go_loopw [15, 16, 17, 77] (fun v15 v16 v17 v77 wr => ∃ (i v : Nat), i ≤ s2.size ∧ v77 = .int .i64 (i : Int) ∧ Aside0 (v < 2 ^ 128) ∧ Aside0 (decM v (s2.data.toList.drop i) = n % 340282366920938463463374607431768211456) ∧ Aside0 (Cells wr w5.heap.size 110 [.int .i64 128, .int .u64 (nlo v), .int .u64 (nhi v)]) ∧ Aside0 (Cells wr w4.heap.size 110 [.int .i64 128, .int .u64 (nlo 10), .int .u64 (nhi 10)]) ∧ Aside0 (Below w.heap.size w wr)) (fun _ _ _ v77 _ => s2.size - (intOf v77).toNat)
                case atStart => exact ⟨0, 0, by omega, rfl, ⟨by decide⟩, ⟨by rw [List.drop_zero]; exact HDM.out⟩, HC5, HC6, HB6⟩
                case round =>
                  obtain ⟨i, v, hi, rfl, HV, HD, HC, HT, HBr⟩ := hrel
                  by_cases hlt : i < s2.size
                  · have hlt' : (i : Int) < (s2.size : Int) := by omega
                    obtain ⟨b, hbv⟩ : ∃ b, s2[i]'hlt = b := ⟨_, rfl⟩
                    have hget : s2.data.toList[i]? = some b := List.getElem?_eq_some_iff.2 ⟨by rw [HL2.out]; exact hlt, by rw [← hbv]; rfl⟩
                    obtain ⟨hg1, hg2⟩ := List.getElem?_eq_some_iff.1 hget
                    have hrg := HDG.out b (List.mem_of_getElem? hget)
                    obtain ⟨dg, hdg⟩ : ∃ dg, b.toNat = 48 + dg := ⟨b.toNat - 48, by omega⟩
                    have hdg9 : dg ≤ 9 := by omega
                    have hcn2 : (s2[i]'hlt).toNat = 48 + dg := by rw [hbv]; exact hdg
                    have hw8 : IntKind.u8.wrap ((48 + dg : Nat) - 48 : Int) = (dg : Int) := by simp only [IntKind.wrap_u8]; omega
                    have hw64 : IntKind.u64.wrap (dg : Int) = (dg : Int) := by simp only [IntKind.wrap_u64]; omega
                    have hS := HD.out
                    rw [List.drop_eq_getElem_cons hg1, hg2, decM_cons] at hS
                    unfold stepM at hS
                    rw [hdg, show 48 + dg - 48 = dg by omega] at hS
                    have HS := Aside0.mk hS
                    clear hS hbv hget hg1 hg2 hrg hdg
                    go_wp2_with fail
                    rw [show (48 + (dg : Int) - 48) = (dg : Int) by omega]
                    refine (New128d_any dg (by omega) _).mono ?_
                    rintro e w7 ⟨rfl, hB7⟩
                    have hb7 := HBr.out.trans (hB7.mono HBr.out.size)
                    have HB7 := Aside0.mk (hb7.alloc hb7.size (.cells #[.int .i64 128, .int .u64 (nlo dg), .int .u64 (nhi dg)] 110))
                    have HC7 := Aside0.mk ((HC.out.below hB7).alloc (.cells #[.int .i64 128, .int .u64 (nlo dg), .int .u64 (nhi dg)] 110))
                    have HT7 := Aside0.mk ((HT.out.below hB7).alloc (.cells #[.int .i64 128, .int .u64 (nlo dg), .int .u64 (nhi dg)] 110))
                    have HD7 := Aside0.mk (Cells.new w7 110 [.int .i64 128, .int .u64 (nlo dg), .int .u64 (nhi dg)])
                    have HNE : Aside0 (w5.heap.size < w7.heap.size ∧ w4.heap.size < w7.heap.size) := ⟨by have h1 := HC.out.lt; have h2 := HT.out.lt; have := hB7.size; omega⟩
                    have HDL : Aside0 (dg < 2 ^ 128) := ⟨by rw [pow128]; omega⟩
                    clear hB7 hb7 hw8 hw64 hcn2
                    have q0 := HC7.out.cell 0 _ rfl
                    have q1 := HC7.out.cell 1 _ rfl
                    have q2 := HC7.out.cell 2 _ rfl
                    have t0 := HT7.out.cell 0 _ rfl
                    have t1 := HT7.out.cell 1 _ rfl
                    have t2 := HT7.out.cell 2 _ rfl
                    unfold bitsV
                    go_wp2_with fail
                    obtain ⟨v2, hv2⟩ : ∃ v2, v * 10 % 340282366920938463463374607431768211456 = v2 := ⟨_, rfl⟩
                    refine (Two_any 20 v2 v 10 HV.out (by decide) (.inr ⟨rfl, rfl, by rw [pow128]; exact hv2.symm⟩) _).mono ?_
                    rintro e w8 ⟨rfl, hB8⟩
                    have hv2l : v2 < 2 ^ 128 := by rw [← hv2, pow128]; exact Nat.mod_lt _ (by decide)
                    have hS2 := HS.out
                    rw [hv2] at hS2
                    have HS2 := Aside0.mk hS2
                    have HV2 := Aside0.mk hv2l
                    have HB8 := Aside0.mk (HB7.out.trans (hB8.mono HB7.out.size))
                    have HC8 := Aside0.mk (HC7.out.below hB8)
                    have HT8 := Aside0.mk (HT7.out.below hB8)
                    have HD8 := Aside0.mk (HD7.out.below hB8)
                    clear hB8 q0 q1 q2 t0 t1 t2 hS2 hv2l hv2 HS
                    have q0 := HC8.out.cell 0 _ rfl
                    have q1 := HC8.out.cell 1 _ rfl
                    have q2 := HC8.out.cell 2 _ rfl
                    have f0 := HC8.out.frozen 0
                    have f1 := HC8.out.frozen 1
                    have f2 := HC8.out.frozen 2
                    unfold bitsV
                    obtain ⟨w9, hw9⟩ : ∃ w9, ((w8.setCell ⟨w5.heap.size, 0, none⟩ (.int .i64 128)).setCell ⟨w5.heap.size, 1, none⟩ (.int .u64 (nlo v2))).setCell ⟨w5.heap.size, 2, none⟩ (.int .u64 (nhi v2)) = w9 := ⟨_, rfl⟩
                    have HC9 : Aside0 (Cells w9 w5.heap.size 110 [.int .i64 128, .int .u64 (nlo v2), .int .u64 (nhi v2)]) := ⟨by rw [← hw9]; exact ((HC8.out.set 0 (.int .i64 128)).set 1 (.int .u64 (nlo v2))).set 2 (.int .u64 (nhi v2))⟩
                    have hm9 : Mod (fun k => k = w5.heap.size) w8 w9 := by rw [← hw9]; exact ((Mod.setCell (p := ⟨w5.heap.size, 0, none⟩) (Mod.refl (fun k => k = w5.heap.size) w8) (.inl rfl) _).setCell (p := ⟨w5.heap.size, 1, none⟩) (.inl rfl) _).setCell (p := ⟨w5.heap.size, 2, none⟩) (.inl rfl) _
                    have HT9 := Aside0.mk (HT8.out.keep hm9 (by have := HSZ.out; omega))
                    have HD9 := Aside0.mk (HD8.out.keep hm9 (by have := HNE.out; omega))
                    have HB9 := Aside0.mk (HB8.out.trans (hm9.belowB (fun k q => by rw [q]; exact Nat.le_of_lt (Nat.lt_of_le_of_lt HB4.out.size HSZ.out)) HB8.out.size))
                    clear hm9
                    go_upto_region 17 with (fail)
                    try rw [hw9]
                    clear hw9 q0 q1 q2 f0 f1 f2
                    have q0 := HC9.out.cell 0 _ rfl
                    have q1 := HC9.out.cell 1 _ rfl
                    have q2 := HC9.out.cell 2 _ rfl
                    have e0 := HD9.out.cell 0 _ rfl
                    have e1 := HD9.out.cell 1 _ rfl
                    have e2 := HD9.out.cell 2 _ rfl
                    go_wp2_with fail
                    obtain ⟨v3, hv3⟩ : ∃ v3, (v2 + dg) % 340282366920938463463374607431768211456 = v3 := ⟨_, rfl⟩
                    refine (Two_any 18 v3 v2 dg HV2.out HDL.out (.inl ⟨rfl, by rw [pow128]; exact hv3.symm⟩) _).mono ?_
                    rintro e w10 ⟨rfl, hB10⟩
                    have hv3l : v3 < 2 ^ 128 := by rw [← hv3, pow128]; exact Nat.mod_lt _ (by decide)
                    have hS3 := HS2.out
                    rw [hv3] at hS3
                    have HS3 := Aside0.mk hS3
                    have HV3 := Aside0.mk hv3l
                    have HB10 := Aside0.mk (HB9.out.trans (hB10.mono HB9.out.size))
                    have HC10 := Aside0.mk (HC9.out.below hB10)
                    have HT10 := Aside0.mk (HT9.out.below hB10)
                    clear hB10 q0 q1 q2 e0 e1 e2 hS3 hv3l hv3
                    have q0 := HC10.out.cell 0 _ rfl
                    have q1 := HC10.out.cell 1 _ rfl
                    have q2 := HC10.out.cell 2 _ rfl
                    have f0 := HC10.out.frozen 0
                    have f1 := HC10.out.frozen 1
                    have f2 := HC10.out.frozen 2
                    unfold bitsV
                    obtain ⟨w11, hw11⟩ : ∃ w11, ((w10.setCell ⟨w5.heap.size, 0, none⟩ (.int .i64 128)).setCell ⟨w5.heap.size, 1, none⟩ (.int .u64 (nlo v3))).setCell ⟨w5.heap.size, 2, none⟩ (.int .u64 (nhi v3)) = w11 := ⟨_, rfl⟩
                    have HC11 : Aside0 (Cells w11 w5.heap.size 110 [.int .i64 128, .int .u64 (nlo v3), .int .u64 (nhi v3)]) := ⟨by rw [← hw11]; exact ((HC10.out.set 0 (.int .i64 128)).set 1 (.int .u64 (nlo v3))).set 2 (.int .u64 (nhi v3))⟩
                    have hm11 : Mod (fun k => k = w5.heap.size) w10 w11 := by rw [← hw11]; exact ((Mod.setCell (p := ⟨w5.heap.size, 0, none⟩) (Mod.refl (fun k => k = w5.heap.size) w10) (.inl rfl) _).setCell (p := ⟨w5.heap.size, 1, none⟩) (.inl rfl) _).setCell (p := ⟨w5.heap.size, 2, none⟩) (.inl rfl) _
                    have HT11 := Aside0.mk (HT10.out.keep hm11 (by have := HSZ.out; omega))
                    have HB11 := Aside0.mk (HB10.out.trans (hm11.belowB (fun k q => by rw [q]; exact Nat.le_of_lt (Nat.lt_of_le_of_lt HB4.out.size HSZ.out)) HB10.out.size))
                    clear hm11
                    go_upto_region 18 with (fail)
                    try rw [hw11]
                    clear hw11 q0 q1 q2 f0 f1 f2
                    go_wp2_with fail
                    go_roundw
                    case rel => exact ⟨i + 1, v3, by omega, by go_num, HV3, HS3, HC11, HT11, HB11⟩
                    case measure => simp [intOf]; omega
                  · have hall : i = s2.size := by omega
                    have hlt' : ¬ (i : Int) < (s2.size : Int) := by omega
                    have hvn : v = n % 340282366920938463463374607431768211456 := by
                      have := HD.out
                      rw [hall, ← HL2.out, List.drop_length, decM_nil] at this
                      exact this
                    have hvk : v % 2 ^ k = n % 2 ^ k := by
                      rw [hvn, ← pow128]
                      exact Nat.mod_mod_of_dvd _ (Nat.pow_dvd_pow 2 HK.out.2)
                    have HVK := Aside0.mk hvk
                    have q0 := HC.out.cell 0 _ rfl
                    have q1 := HC.out.cell 1 _ rfl
                    have q2 := HC.out.cell 2 _ rfl
                    clear hall hvn hvk
                    go_wp2_with fail
                    refine (New_any (k : Int) v HV.out _).mono ?_
                    rintro e w12 ⟨rfl, hB12⟩
                    rw [if_neg (by have := HK.out; omega), Int.toNat_natCast, HVK.out]
                    have HB12 := Aside0.mk (HBr.out.trans (hB12.mono HBr.out.size))
                    have HC12 := Aside0.mk (HC.out.below hB12)
                    clear hB12 q0 q1 q2
                    have q0 := HC12.out.cell 0 _ rfl
                    have q1 := HC12.out.cell 1 _ rfl
                    have q2 := HC12.out.cell 2 _ rfl
                    have f0 := HC12.out.frozen 0
                    have f1 := HC12.out.frozen 1
                    have f2 := HC12.out.frozen 2
                    obtain ⟨m, hm⟩ : ∃ m, n % 2 ^ k = m := ⟨_, rfl⟩
                    rw [hm]
                    have hml : m < 2 ^ 128 := by rw [← hm]; exact Nat.lt_of_lt_of_le (Nat.mod_lt _ (Nat.two_pow_pos k)) (Nat.pow_le_pow_right (by decide) HK.out.2)
                    have hR5 : constF ⟨k, m⟩ r = R := by rw [← hm]; exact HF.out
                    have hcn := fun W h hB => constant_any z W E vl cs defs r ⟨k, m⟩ HK.out.2 hml h hB
                    rw [hR5] at hcn
                    have HCN := Aside0.mk hcn
                    clear hm hml hR5 hcn
                    unfold bitsV
                    obtain ⟨w13, hw13⟩ : ∃ w13, ((w12.setCell ⟨w5.heap.size, 0, none⟩ (.int .i64 (k : Int))).setCell ⟨w5.heap.size, 1, none⟩ (.int .u64 (nlo m))).setCell ⟨w5.heap.size, 2, none⟩ (.int .u64 (nhi m)) = w13 := ⟨_, rfl⟩
                    have HC13 : Aside0 (Cells w13 w5.heap.size 110 [.int .i64 (k : Int), .int .u64 (nlo m), .int .u64 (nhi m)]) := ⟨by rw [← hw13]; exact ((HC12.out.set 0 (.int .i64 (k : Int))).set 1 (.int .u64 (nlo m))).set 2 (.int .u64 (nhi m))⟩
                    have hm13 : Mod (fun k => k = w5.heap.size) w12 w13 := by rw [← hw13]; exact ((Mod.setCell (p := ⟨w5.heap.size, 0, none⟩) (Mod.refl (fun k => k = w5.heap.size) w12) (.inl rfl) _).setCell (p := ⟨w5.heap.size, 1, none⟩) (.inl rfl) _).setCell (p := ⟨w5.heap.size, 2, none⟩) (.inl rfl) _
                    have HB13 := Aside0.mk (HB12.out.trans (hm13.belowB (fun k q => by rw [q]; exact Nat.le_of_lt (Nat.lt_of_le_of_lt HB4.out.size HSZ.out)) HB12.out.size))
                    clear hm13
                    go_upto_region 20 with (fail)
                    try rw [hw13]
                    clear hw13 q0 q1 q2 f0 f1 f2
                    have q0 := HC13.out.cell 0 _ rfl
                    have q1 := HC13.out.cell 1 _ rfl
                    have q2 := HC13.out.cell 2 _ rfl
                    go_wp2_with fail
                    refine (HCN.out _ (HH.out.below HB13.out) (Nat.le_trans hB HB13.out.size)).mono ?_
                    intro e w14 hp
                    have hq := RPost.pre HB13.out hB hp
                    clear hp
                    obtain ⟨rfl, hq2⟩ := hq
                    have HQ := Aside0.mk hq2
                    clear hq2
                    go_wp2_with fail
                    go_returns
                    exact ⟨rfl, HQ.out⟩
      · have hpb : (xw.data.toList.take 2 == [98, 118]) = false := by simpa using hp
        rw [hpb] at HP
        have HF : Aside0 (failF 50 r = R) := ⟨by rw [if_pos (.inr hp)] at hR2; exact hR2⟩
        clear hR2 HNY hp hpb
        go_enter Tryz.func152, Tryz.ntmps152
        go_wp2_with fail
        refine (HP.out _).mono ?_
        rintro e w1 ⟨rfl, hB1⟩
        have HB1 := Aside0.mk hB1
        clear hB1
        go_wp2_with fail
        go_returns
        rw [← HF.out]
        exact RPost.new HH.out HB1.out hB 0 50
  · have HF : Aside0 (failF 50 r = R) := ⟨by
      rw [← hR]
      unfold bitsF
      match l, h2 with
      | [], _ => rfl
      | [_], _ => rfl
      | [_, _], h => exact absurd rfl h
      | _ :: _ :: _ :: _, _ => rfl⟩
    obtain ⟨N, hN⟩ : ∃ N, l.length = N := ⟨_, rfl⟩
    rw [hN] at h2 hlc ⊢
    have h3 : ¬ (N : Int) = 2 := by omega
    clear hR h2 hN
    go_enter Tryz.func152, Tryz.ntmps152
    go_wp2_with fail
    go_returns
    rw [← HF.out]
    exact RPost.new HH.out (Below.refl _ _) hB 0 50
end
end Go.Proofs.YthhnhbpmpdminaaGreatDoor
