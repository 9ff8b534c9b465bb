/-
The law ReadNumbers, walked. Conditions: strconv's variable holds an error; the numbers are int's.
-/
import Derived.Test.YthhnhbpmpdminaaGreatDoorNwk
namespace Go.Proofs.YthhnhbpmpdminaaGreatDoor
set_option maxRecDepth 4096
set_option maxHeartbeats 8000000
set_option linter.unusedSimpArgs false
set_option linter.unusedVariables false
set_option linter.unnecessarySimpa false
open Go.RowKit Go.Proofs.YthhnhbpmpdminaaGreatDoorW.PrintWords Go.Maps PReadTwice Go.Lib
theorem hex_one (d : Nat) (h : d < 16) : (⟨#[48, 49, 50, 51, 52, 53, 54, 55, 56, 57, 97, 98, 99, 100, 101, 102]⟩ : ByteArray).extract d (d + 1) = ⟨#[hexC d]⟩ := by
  match d, h with
  | 0, _ => rfl
  | 1, _ => rfl
  | 2, _ => rfl
  | 3, _ => rfl
  | 4, _ => rfl
  | 5, _ => rfl
  | 6, _ => rfl
  | 7, _ => rfl
  | 8, _ => rfl
  | 9, _ => rfl
  | 10, _ => rfl
  | 11, _ => rfl
  | 12, _ => rfl
  | 13, _ => rfl
  | 14, _ => rfl
  | 15, _ => rfl
  | d + 16, h => omega
theorem hex_plain (d : Nat) (h : d < 16) : plainB (hexC d) = true := by
  match d, h with
  | 0, _ => rfl
  | 1, _ => rfl
  | 2, _ => rfl
  | 3, _ => rfl
  | 4, _ => rfl
  | 5, _ => rfl
  | 6, _ => rfl
  | 7, _ => rfl
  | 8, _ => rfl
  | 9, _ => rfl
  | 10, _ => rfl
  | 11, _ => rfl
  | 12, _ => rfl
  | 13, _ => rfl
  | 14, _ => rfl
  | 15, _ => rfl
  | d + 16, h => omega
theorem dig_plain {b : UInt8} (h : 48 ≤ b.toNat ∧ b.toNat ≤ 57) : plainB b = true := by
  have h1 : (48 : UInt8) ≤ b := h.1
  have h2 : b ≤ (57 : UInt8) := h.2
  unfold plainB
  simp [h1, h2]
theorem bits_text (k m : Nat) (hk : k ≤ 128) : parse (35 :: 98 :: bw m k) = .ok [wordSx ⟨(35 :: 98 :: bw m k).toArray⟩] :=
  npa_word _ (by simp) (fun b hb => by
    rcases List.mem_cons.1 hb with rfl | hb
    · rfl
    · rcases List.mem_cons.1 hb with rfl | hb
      · rfl
      · rcases bw_mem k m b hb with rfl | rfl <;> rfl) (by simp [bw_len]; omega)
theorem hex_text (d : Nat) (h : d < 16) : parse [35, 120, hexC d] = .ok [wordSx ⟨#[35, 120, hexC d]⟩] :=
  npa_word _ (by simp) (fun b hb => by
    rcases List.mem_cons.1 hb with rfl | hb
    · rfl
    · rcases List.mem_cons.1 hb with rfl | hb
      · rfl
      · rw [List.mem_singleton] at hb; subst hb; exact hex_plain d h) (by simp)
theorem num_text (u k : Nat) (hu : u < 1000000000) (hk : k < 1000000000) : parse (bvT (decDigits u) (decDigits k)) = .ok [listSx [wordSx ⟨#[95]⟩, wordSx ⟨([98, 118] ++ decDigits u).toArray⟩, wordSx ⟨(decDigits k).toArray⟩]] := by
  obtain ⟨_, _, a3, _, _, a6⟩ := nde_from 8 u hu
  obtain ⟨_, b2, b3, _, _, b6⟩ := nde_from 8 k hk
  exact npa_bv _ _ (fun b hb => dig_plain (a6 b hb)) (fun b hb => dig_plain (b6 b hb)) b2 (by omega)
set_option maxHeartbeats 40000000 in
theorem lawNumbers (n0 w0 m0 : Int) (W : World) (hn1 : -9223372036854775808 ≤ n0 ∧ n0 ≤ 9223372036854775807) (hw1 : -9223372036854775808 ≤ w0 ∧ w0 ≤ 9223372036854775807) (hm1 : -9223372036854775808 ≤ m0 ∧ m0 ≤ 9223372036854775807) (he : ErrV W) :
    Calls Tryz.prog 10 #[.int .i64 n0, .int .i64 w0, .int .i64 m0] W fun e W' => e = .returned (.bool true) ∧ Below W.heap.size W W' := by
  have PW := Aside0.mk (fun w => Place_any w0 20 (by omega) (by omega) hw1.1 hw1.2 w)
  have PM := Aside0.mk (fun w => Place_any m0 50 (by omega) (by omega) hm1.1 hm1.2 w)
  obtain ⟨a, ha⟩ : ∃ a : Nat, w0 % 20 = (a : Int) := ⟨(w0 % 20).toNat, by omega⟩
  obtain ⟨more, hmo⟩ : ∃ a : Nat, m0 % 50 = (a : Int) := ⟨(m0 % 50).toNat, by omega⟩
  obtain ⟨k, hk⟩ : ∃ k, a + 1 = k := ⟨_, rfl⟩
  have hk1 : 1 ≤ k := by omega
  have hk20 : k ≤ 20 := by omega
  have hp20 : 2 ^ k ≤ 1048576 := Nat.le_trans (Nat.pow_le_pow_right (by omega) hk20) (by decide)
  have hp0 : 0 < 2 ^ k := Nat.pow_pos (by omega)
  obtain ⟨p, hp⟩ : ∃ p, 2 ^ k = p := ⟨_, rfl⟩
  have PN := Aside0.mk (fun w => Place_any n0 (p : Int) (by omega) (by omega) hn1.1 hn1.2 w)
  obtain ⟨n, hn⟩ : ∃ n : Nat, n0 % (p : Int) = (n : Int) := ⟨(n0 % (p : Int)).toNat, by have := Int.emod_nonneg n0 (show (p : Int) ≠ 0 by omega); omega⟩
  have hnp : n < p := by have := Int.emod_lt_of_pos n0 (show 0 < (p : Int) by omega); omega
  have hm50 : more < 50 := by omega
  rw [ha] at PW
  rw [hmo] at PM
  rw [hn] at PN
  have hka : (1 : Int) + (a : Int) = (k : Int) := by omega
  have hk2 : (k : Int) ≤ 20 := by omega
  have hk3 : (1 : Int) ≤ (k : Int) := by omega
  have hpi : (p : Int) ≤ 1048576 := by omega
  have hni : (n : Int) ≤ 1048576 := by omega
  have hmi : (more : Int) ≤ 49 := by omega
  have hsh : (2 : Int) ^ k = (p : Int) := by rw [← hp]; simp
  obtain ⟨q, hq⟩ : ∃ q, more * p = q := ⟨_, rfl⟩
  have hq2 : q ≤ 51380224 := by rw [← hq]; exact Nat.le_trans (Nat.mul_le_mul (show more ≤ 49 by omega) (show p ≤ 1048576 by omega)) (by decide)
  have hqi : (more : Int) * (p : Int) = (q : Int) := by rw [← hq]; simp
  obtain ⟨u, hu⟩ : ∃ u, n + q = u := ⟨_, rfl⟩
  have hu9 : u < 1000000000 := by omega
  have hui : (n : Int) + (q : Int) = (u : Int) := by omega
  have hqm : (q : Int) ≤ 51380224 := by omega
  have hum : (u : Int) ≤ 52428800 := by omega
  have hun : u % 2 ^ k = n := by rw [← hu, ← hq, hp, Nat.add_mul_mod_self_right]; exact Nat.mod_eq_of_lt hnp
  obtain ⟨d, hd⟩ : ∃ d, n % 16 = d := ⟨_, rfl⟩
  have hd16 : d < 16 := by omega
  have hdi : (d : Int) ≤ 15 := by omega
  have hnd : bits .and .i64 (n : Int) 15 = (d : Int) := by rw [and_15 n (by have : (2 : Nat) ^ 40 = 1099511627776 := by decide
                                                                            omega), hd]
  obtain ⟨ia, ic, G1, G3, M1, M2, M3, M4⟩ := four_same k n d hk1 (by omega) (by rw [hp]; exact hnp) hd16
  have hb1 := bits_text k n (by omega)
  have ht1 := fun G => term_bits ⟨(35 :: 98 :: bw n k).toArray⟩ ⟨k, n⟩ (npa_bits k n hk1 (by omega) (by rw [hp]; exact hnp)) G
  have hb2 := num_text u k hu9 (by omega)
  have ht2 := fun G => term_num u k hu9 hk1 (by omega) G
  rw [hun] at ht2
  have hb3 := hex_text d hd16
  have ht3 := fun G => term_bits ⟨#[35, 120, hexC d]⟩ ⟨4, d⟩ (npa_hex d hd16) G
  have hb4 := bits_text 4 d (by omega)
  have ht4 := fun G => term_bits ⟨(35 :: 98 :: bw d 4).toArray⟩ ⟨4, d⟩ (npa_bits 4 d (by omega) (by omega) hd16) G
  have C1 := Aside0.mk (fun w => binary_any n k hk20 (by rw [hp]; exact hnp) w)
  have C4 := Aside0.mk (fun w => binary_any d 4 (by omega) hd16 w)
  have CU := Aside0.mk (fun w => ndigits_any 8 u hu9 hu9 w)
  have CK := Aside0.mk (fun w => ndigits_any 8 k (by omega) (by omega) w)
  have zU : (decDigits u).length ≤ 9 := (nde_from 8 u hu9).2.2.1
  have zK : (decDigits k).length ≤ 9 := (nde_from 8 k (by omega)).2.2.1
  have z1 : (35 :: 98 :: bw n k).length ≤ 22 := by simp [bw_len]; omega
  have z4 : (35 :: 98 :: bw d 4).length ≤ 22 := by simp [bw_len]
  obtain ⟨x1, e1⟩ : ∃ x, x = wordSx ⟨(35 :: 98 :: bw n k).toArray⟩ := ⟨_, rfl⟩
  obtain ⟨x2, e2⟩ : ∃ x, x = listSx [wordSx ⟨#[95]⟩, wordSx ⟨([98, 118] ++ decDigits u).toArray⟩, wordSx ⟨(decDigits k).toArray⟩] := ⟨_, rfl⟩
  obtain ⟨x3, e3⟩ : ∃ x, x = wordSx ⟨#[35, 120, hexC d]⟩ := ⟨_, rfl⟩
  obtain ⟨x4, e4⟩ : ∃ x, x = wordSx ⟨(35 :: 98 :: bw d 4).toArray⟩ := ⟨_, rfl⟩
  rw [← e1] at hb1 ht1
  rw [← e2] at hb2 ht2
  rw [← e3] at hb3 ht3
  rw [← e4] at hb4 ht4
  obtain ⟨s0, hs0⟩ : ∃ s : Sc, s = ⟨[], ⟨50, []⟩, 0⟩ := ⟨_, rfl⟩
  obtain ⟨s1, hs1⟩ : ∃ s : Sc, s = ⟨[], G1, 0⟩ := ⟨_, rfl⟩
  obtain ⟨s3, hs3⟩ : ∃ s : Sc, s = ⟨[], G3, 0⟩ := ⟨_, rfl⟩
  have T1 : (termF s0.E x1 s0.G).1 = (ia, 0) ∧ ({ s0 with G := (termF s0.E x1 s0.G).2.G } : Sc) = s1 := by
    rw [hs0, hs1]; exact ⟨(ht1 _).1.trans (by rw [M1]), by rw [(ht1 _).2, M1]⟩
  have T2 : (termF s1.E x2 s1.G).1 = (ia, 0) ∧ ({ s1 with G := (termF s1.E x2 s1.G).2.G } : Sc) = s1 := by
    rw [hs1]; exact ⟨(ht2 _).1.trans (by rw [M2]), by rw [(ht2 _).2, M2]⟩
  have T3 : (termF s1.E x3 s1.G).1 = (ic, 0) ∧ ({ s1 with G := (termF s1.E x3 s1.G).2.G } : Sc) = s3 := by
    rw [hs1, hs3]; exact ⟨(ht3 _).1.trans (by rw [M3]), by rw [(ht3 _).2, M3]⟩
  have T4 : (termF s3.E x4 s3.G).1 = (ic, 0) ∧ ({ s3 with G := (termF s3.E x4 s3.G).2.G } : Sc) = s3 := by
    rw [hs3]; exact ⟨(ht4 _).1.trans (by rw [M4]), by rw [(ht4 _).2, M4]⟩
  obtain ⟨B1, hB1⟩ : ∃ t, (⟨(35 :: 98 :: bw n k).toArray⟩ : ByteArray) = t := ⟨_, rfl⟩
  obtain ⟨B4, hB4⟩ : ∃ t, (⟨(35 :: 98 :: bw d 4).toArray⟩ : ByteArray) = t := ⟨_, rfl⟩
  obtain ⟨BU, hBU⟩ : ∃ t, (⟨(decDigits u).toArray⟩ : ByteArray) = t := ⟨_, rfl⟩
  obtain ⟨BK, hBK⟩ : ∃ t, (⟨(decDigits k).toArray⟩ : ByteArray) = t := ⟨_, rfl⟩
  obtain ⟨D, hD⟩ : ∃ t, (⟨#[hexC d]⟩ : ByteArray) = t := ⟨_, rfl⟩
  have hsl0 := hex_one d hd16
  rw [hD] at hsl0
  have hsl := fun w => cut_str ⟨#[48, 49, 50, 51, 52, 53, 54, 55, 56, 57, 97, 98, 99, 100, 101, 102]⟩ (d : Int) ((d : Int) + 1) _ d (d + 1) rfl (by omega) (by omega) (by show d + 1 ≤ 16; omega) hsl0 w
  have q1 : B1.data.toList = 35 :: 98 :: bw n k := by rw [← hB1]
  have q4 : B4.data.toList = 35 :: 98 :: bw d 4 := by rw [← hB4]
  have HP1 : Aside0 (parse B1.data.toList = .ok [x1]) := ⟨by rw [q1]; exact hb1⟩
  have HP4 : Aside0 (parse B4.data.toList = .ok [x4]) := ⟨by rw [q4]; exact hb4⟩
  have HP2 : Aside0 (parse (((((⟨#[40, 95, 32, 98, 118]⟩ : ByteArray) ++ BU) ++ ⟨#[32]⟩) ++ BK) ++ ⟨#[41]⟩).data.toList = .ok [x2]) := ⟨by
    rw [← hb2, ← hBU, ← hBK]
    congr 1
    simp [bvT]⟩
  have HP3 : Aside0 (parse ((⟨#[35, 120]⟩ : ByteArray) ++ D).data.toList = .ok [x3]) := ⟨by
    rw [← hb3, ← hD]
    congr 1⟩
  have yU : BU.size ≤ 9 := by rw [← hBU]; exact zU
  have yK : BK.size ≤ 9 := by rw [← hBK]; exact zK
  have y1 : B1.size ≤ 22 := by rw [← hB1]; exact z1
  have y4 : B4.size ≤ 22 := by rw [← hB4]; exact z4
  have yD : D.size = 1 := by rw [← hD]; rfl
  have hcat1 := fun w' => run_string_add_sum (P := Tryz.prog) (w := w') ⟨#[40, 95, 32, 98, 118]⟩ BU (by show 5 + BU.size ≤ _; omega)
  have hcat2 := fun w' => run_string_add_sum (P := Tryz.prog) (w := w') (⟨#[40, 95, 32, 98, 118]⟩ ++ BU) ⟨#[32]⟩ (by rw [ByteArray.size_append]; show 5 + BU.size + 1 ≤ _; omega)
  have hcat3 := fun w' => run_string_add_sum (P := Tryz.prog) (w := w') ((⟨#[40, 95, 32, 98, 118]⟩ ++ BU) ++ ⟨#[32]⟩) BK (by rw [ByteArray.size_append, ByteArray.size_append]; show 5 + BU.size + 1 + BK.size ≤ _; omega)
  have hcat4 := fun w' => run_string_add_sum (P := Tryz.prog) (w := w') (((⟨#[40, 95, 32, 98, 118]⟩ ++ BU) ++ ⟨#[32]⟩) ++ BK) ⟨#[41]⟩ (by rw [ByteArray.size_append, ByteArray.size_append, ByteArray.size_append]; show 5 + BU.size + 1 + BK.size + 1 ≤ _; omega)
  have hcat5 := fun w' => run_string_add_sum (P := Tryz.prog) (w := w') ⟨#[35, 120]⟩ D (by rw [yD]; decide)
  have HS2 : Aside0 ((((((⟨#[40, 95, 32, 98, 118]⟩ : ByteArray) ++ BU) ++ ⟨#[32]⟩) ++ BK) ++ ⟨#[41]⟩).size ≤ 9223372036854775807) := ⟨by
    rw [ByteArray.size_append, ByteArray.size_append, ByteArray.size_append, ByteArray.size_append]; show 5 + BU.size + 1 + BK.size + 1 ≤ _; omega⟩
  have HS3 : Aside0 (((⟨#[35, 120]⟩ : ByteArray) ++ D).size ≤ 9223372036854775807) := ⟨by
    rw [ByteArray.size_append, yD]; decide⟩
  have HS1 : Aside0 (B1.size ≤ 9223372036854775807) := ⟨by omega⟩
  have HS4 : Aside0 (B4.size ≤ 9223372036854775807) := ⟨by omega⟩
  rw [hB1] at C1
  rw [hB4] at C4
  rw [hBU] at CU
  rw [hBK] at CK
  have T1 := Aside0.mk T1
  have T2 := Aside0.mk T2
  have T3 := Aside0.mk T3
  have T4 := Aside0.mk T4
  have HS0 := Aside0.mk hs0
  clear hk hk1 hk20 hp20 hp0 hp hnp hm50 hq hq2 hu hu9 hun hd hd16 M1 M2 M3 M4 hb1 ht1 hb2 ht2 hb3 ht3 hb4 ht4 zU zK z1 z4 e1 e2 e3 e4 hs0 hs1 hs3 hB1 hB4 hBU hBK hD hsl0 q1 q4 yU yK y1 y4 yD
  have HE := Aside0.mk he
  clear ha hmo hn he hn1 hw1 hm1
  go_enter Tryz.func10, Tryz.ntmps10
  go_wp2_with fail
  refine (known5_any W HE.out).mono ?_
  rintro e w1 ⟨rfl, hB1⟩
  have HB1 := Aside0.mk hB1
  clear hB1
  go_wp2_with fail
  refine (PW.out w1).mono ?_
  rintro e w' ⟨rfl, rfl⟩
  go_wp2_with fail
  refine (PN.out w').mono ?_
  rintro e w2 ⟨rfl, rfl⟩
  go_wp2_with fail
  refine (PM.out w2).mono ?_
  rintro e w3 ⟨rfl, rfl⟩
  go_wp2_with fail
  refine (tNew_any50 w3).mono ?_
  rintro e w4 ⟨g, bi, bn, rfl, hG, hB3⟩
  have HB13 := HB1.out.trans (hB3.mono HB1.out.size)
  have HG := Aside0.mk hG
  have HB34 := Aside0.mk hB3
  have HB3 := Aside0.mk HB13
  have HW3 : Aside0 (W.heap.size ≤ w3.heap.size) := ⟨HB1.out.size⟩
  clear hG hB3 HB13
  go_wp2_with fail
  refine (rNew_any w4 g).mono ?_
  rintro e w5 ⟨sb, ab, rfl, hsc, hab, h1, h2, hB4⟩
  have hB04 := HB3.out.trans (hB4.mono HB3.out.size)
  have heb : 3 < w3.heap.size := by
    obtain ⟨ev, h3, _⟩ := HE.out
    exact Nat.lt_of_lt_of_le (World.block_lt_of_cell? W _ h3) HW3.out
  have hs4 := SS.start HG.out hB4 HB34.out.size hsc hab h1 h2 (HE.out.below hB04) heb
  rw [← HS0.out] at hs4
  obtain ⟨z, hz⟩ : ∃ z : Zr, z = ⟨w3.heap.size, g, bi, bn, sb, g, ab⟩ := ⟨_, rfl⟩
  rw [← hz] at hs4
  have hzs : sb = z.sb := by rw [hz]
  have hzg : g = z.g := by rw [hz]
  have hzb : z.B = w3.heap.size := by rw [hz]
  have hZ5 : z.B ≤ w5.heap.size := by
    rw [hzb]; exact Nat.le_trans HB34.out.size hB4.size
  have hzW : W.heap.size ≤ z.B := by rw [hzb]; exact HW3.out
  clear hz hsc hab h1 h2 hB4 heb HG hzb HB34 HW3
  subst hzs hzg
  have HZW := Aside0.mk hzW
  have HSA := Aside0.mk hs4
  have HBA := Aside0.mk hB04
  have HZA := Aside0.mk hZ5
  clear hs4 hB04 hZ5 hzW
  go_wp2_with fail
  refine (C1.out _).mono ?_
  rintro e wc1 ⟨rfl, hB⟩
  have HSBb := Aside0.mk (HSA.out.below hB)
  have HBBb := Aside0.mk (HBA.out.trans (hB.mono HBA.out.size))
  have HZBb : Aside0 (z.B ≤ wc1.heap.size) := ⟨Nat.le_trans HZA.out hB.size⟩
  clear hB
  go_wp2_with fail
  refine (parsed_any _ x1 [] HP1.out HS1.out _).mono ?_
  rintro e wp1 ⟨⟨c1, rfl, hrt⟩, hB⟩
  have hrt2 := HSBb.out.tree hrt
  obtain ⟨a1, k1, rfl, _, _, _, _⟩ := RT_cells hrt2
  have HRT := Aside0.mk (RT_move (S' := NR z wp1) (fun _ _ => rfl) (fun _ q => q.1) _ _ hrt2)
  have HSp1 := Aside0.mk (HSBb.out.below hB)
  have HBp1 := Aside0.mk (HBBb.out.trans (hB.mono HBBb.out.size))
  have HZp1 : Aside0 (z.B ≤ wp1.heap.size) := ⟨Nat.le_trans HZBb.out hB.size⟩
  clear hrt hrt2 hB
  go_wp2_with fail
  refine (Term_any z wp1 s0 x1 _ HSp1.out HZp1.out HRT.out).mono ?_
  rintro e wt1 ⟨rfl, hS, _, hB⟩
  rw [T1.out.1]
  rw [T1.out.2] at hS
  dsimp only
  have HSCc := Aside0.mk hS
  have HBCc := Aside0.mk (HBp1.out.trans (hB.mono HZW.out))
  have HZCc : Aside0 (z.B ≤ wt1.heap.size) := ⟨Nat.le_trans HZp1.out hB.size⟩
  clear hS hB
  go_wp2_with fail
  refine (CU.out _).mono ?_
  rintro e wc2 ⟨rfl, hB⟩
  have HSDd := Aside0.mk (HSCc.out.below hB)
  have HBDd := Aside0.mk (HBCc.out.trans (hB.mono HBCc.out.size))
  have HZDd : Aside0 (z.B ≤ wc2.heap.size) := ⟨Nat.le_trans HZCc.out hB.size⟩
  clear hB
  go_wp2_with fail
  refine (CK.out _).mono ?_
  rintro e wc3 ⟨rfl, hB⟩
  have HSEe := Aside0.mk (HSDd.out.below hB)
  have HBEe := Aside0.mk (HBDd.out.trans (hB.mono HBDd.out.size))
  have HZEe : Aside0 (z.B ≤ wc3.heap.size) := ⟨Nat.le_trans HZDd.out hB.size⟩
  clear hB
  go_wp2_with fail
  refine (parsed_any _ x2 [] HP2.out HS2.out _).mono ?_
  rintro e wp2 ⟨⟨c1, rfl, hrt⟩, hB⟩
  have hrt2 := HSEe.out.tree hrt
  obtain ⟨a2, k2, rfl, _, _, _, _⟩ := RT_cells hrt2
  have HRT := Aside0.mk (RT_move (S' := NR z wp2) (fun _ _ => rfl) (fun _ q => q.1) _ _ hrt2)
  have HSp2 := Aside0.mk (HSEe.out.below hB)
  have HBp2 := Aside0.mk (HBEe.out.trans (hB.mono HBEe.out.size))
  have HZp2 : Aside0 (z.B ≤ wp2.heap.size) := ⟨Nat.le_trans HZEe.out hB.size⟩
  clear hrt hrt2 hB
  go_wp2_with fail
  refine (Term_any z wp2 s1 x2 _ HSp2.out HZp2.out HRT.out).mono ?_
  rintro e wt2 ⟨rfl, hS, _, hB⟩
  rw [T2.out.1]
  rw [T2.out.2] at hS
  dsimp only
  have HSFf := Aside0.mk hS
  have HBFf := Aside0.mk (HBp2.out.trans (hB.mono HZW.out))
  have HZFf : Aside0 (z.B ≤ wt2.heap.size) := ⟨Nat.le_trans HZp2.out hB.size⟩
  clear hS hB
  go_wp2_with fail
  refine (parsed_any _ x3 [] HP3.out HS3.out _).mono ?_
  rintro e wp3 ⟨⟨c1, rfl, hrt⟩, hB⟩
  have hrt2 := HSFf.out.tree hrt
  obtain ⟨a3, k3, rfl, _, _, _, _⟩ := RT_cells hrt2
  have HRT := Aside0.mk (RT_move (S' := NR z wp3) (fun _ _ => rfl) (fun _ q => q.1) _ _ hrt2)
  have HSp3 := Aside0.mk (HSFf.out.below hB)
  have HBp3 := Aside0.mk (HBFf.out.trans (hB.mono HBFf.out.size))
  have HZp3 : Aside0 (z.B ≤ wp3.heap.size) := ⟨Nat.le_trans HZFf.out hB.size⟩
  clear hrt hrt2 hB
  go_wp2_with fail
  refine (Term_any z wp3 s1 x3 _ HSp3.out HZp3.out HRT.out).mono ?_
  rintro e wt3 ⟨rfl, hS, _, hB⟩
  rw [T3.out.1]
  rw [T3.out.2] at hS
  dsimp only
  have HSGg := Aside0.mk hS
  have HBGg := Aside0.mk (HBp3.out.trans (hB.mono HZW.out))
  have HZGg : Aside0 (z.B ≤ wt3.heap.size) := ⟨Nat.le_trans HZp3.out hB.size⟩
  clear hS hB
  go_wp2_with fail
  refine (C4.out _).mono ?_
  rintro e wc4 ⟨rfl, hB⟩
  have HSHh := Aside0.mk (HSGg.out.below hB)
  have HBHh := Aside0.mk (HBGg.out.trans (hB.mono HBGg.out.size))
  have HZHh : Aside0 (z.B ≤ wc4.heap.size) := ⟨Nat.le_trans HZGg.out hB.size⟩
  clear hB
  go_wp2_with fail
  refine (parsed_any _ x4 [] HP4.out HS4.out _).mono ?_
  rintro e wp4 ⟨⟨c1, rfl, hrt⟩, hB⟩
  have hrt2 := HSHh.out.tree hrt
  obtain ⟨a4, k4, rfl, _, _, _, _⟩ := RT_cells hrt2
  have HRT := Aside0.mk (RT_move (S' := NR z wp4) (fun _ _ => rfl) (fun _ q => q.1) _ _ hrt2)
  have HSp4 := Aside0.mk (HSHh.out.below hB)
  have HBp4 := Aside0.mk (HBHh.out.trans (hB.mono HBHh.out.size))
  have HZp4 : Aside0 (z.B ≤ wp4.heap.size) := ⟨Nat.le_trans HZHh.out hB.size⟩
  clear hrt hrt2 hB
  go_wp2_with fail
  refine (Term_any z wp4 s3 x4 _ HSp4.out HZp4.out HRT.out).mono ?_
  rintro e wt4 ⟨rfl, hS, _, hB⟩
  rw [T4.out.1]
  rw [T4.out.2] at hS
  dsimp only
  have HSIi := Aside0.mk hS
  have HBIi := Aside0.mk (HBp4.out.trans (hB.mono HZW.out))
  have HZIi : Aside0 (z.B ≤ wt4.heap.size) := ⟨Nat.le_trans HZp4.out hB.size⟩
  clear hS hB
  go_wp2_with fail
  go_returns
  exact ⟨rfl, HBIi.out⟩
end Go.Proofs.YthhnhbpmpdminaaGreatDoor
