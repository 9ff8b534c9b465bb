/-
Several texts as one: Gbq Rwo.
-/
import Derived.Test.YthhnhbpmpdminaaGreatDoorXP
import Derived.Test.YthhnhbpmpdminaaGreatDoorRbd
import Derived.Test.YthhnhbpmpdminaaGreatDoorXG
/-
bv.Parse; strings.HasPrefix at two bytes. Conditions: a string in memory.
-/
namespace Go.Proofs.YthhnhbpmpdminaaGreatDoor
set_option maxRecDepth 4096
set_option maxHeartbeats 8000000
set_option linter.unusedSimpArgs false
set_option linter.unusedVariables false
set_option linter.unnecessarySimpa false
open Go.RowKit Go.Proofs.YthhnhbpmpdminaaGreatDoorW.PrintWords Go.Proofs.YthhnhbpmpdminaaGreatDoorW.PrintMore PReadTwice
theorem ext_list (s : ByteArray) (i j : Nat) : (s.extract i j).data.toList = (s.data.toList.take j).drop i := by
  rw [ByteArray.data_extract, Array.toList_extract]
  simp [List.extract_eq_take_drop, List.drop_take]
theorem HasPrefix_any (s : ByteArray) (x y : UInt8) (W : World) : Calls Tryz.prog 197 #[.string s, .string ⟨#[x, y]⟩] W fun e W' => e = .returned (.bool (s.data.toList.take 2 == [x, y])) ∧ Below W.heap.size W W' := by
  have hl : s.data.toList.length = s.size := by rw [Array.length_toList]; rfl
  have hf : strings_HasPrefix.f s ⟨#[x, y]⟩ = some (s.data.toList.take 2 == [x, y]) := by
    unfold strings_HasPrefix.f stringslite_HasPrefix.f
    have h2 : ((⟨#[x, y]⟩ : ByteArray).size : Int) = 2 := rfl
    rw [h2]
    by_cases h : (s.size : Int) ≥ 2
    · rw [if_pos h, if_pos (by omega), if_pos (by omega)]
      simp only [Option.bind_some, ByteArray.toList_eq, ext_list]
      rfl
    · rw [if_neg h]
      have : (s.data.toList.take 2 == [x, y]) = false := by
        rw [beq_eq_false_iff_ne]
        intro q
        have := congrArg List.length q
        simp only [List.length_take, List.length_cons, List.length_nil] at this
        omega
      rw [this]; rfl
  refine (strings_HasPrefix.calls _ _ _ W hf).mono ?_
  rintro e w' ⟨rfl, hd⟩
  exact ⟨rfl, hd.below⟩
def bvR : Option Bt → Value
  | none => .tuple #[.agg #[.int .i64 0, .int .u64 0, .int .u64 0], .int .i64 13]
  | some v => .tuple #[bitsV v.w v.n, .int .i64 0]
theorem digF_small {k : Nat} (hk : k = 1 ∨ k = 4) {l : List UInt8} {v : Bt} (h : digitsV k l = some v) : v.w ≤ 128 ∧ v.n < 2 ^ 128 := by
  unfold digitsV at h
  split at h
  · cases h
  · rename_i hc
    obtain ⟨n, hn, rfl⟩ := Option.map_eq_some_iff.1 h
    have hw : k * l.length ≤ 128 := by
      have hc2 : ¬ 128 / k < l.length := fun q => hc (.inr q)
      rcases hk with rfl | rfl <;> (simp at hc2; omega)
    have := digF_lt k l 0 n hn
    refine ⟨hw, Nat.lt_of_lt_of_le this ?_⟩
    rw [Nat.zero_add, Nat.one_mul]
    exact Nat.pow_le_pow_right (by decide) hw
theorem bvParse_small {l : List UInt8} {v : Bt} (h : bvParse l = some v) : v.w ≤ 128 ∧ v.n < 2 ^ 128 := by
  unfold bvParse at h
  split at h
  · cases h; exact ⟨by decide, by decide⟩
  · split at h
    · cases h; exact ⟨by decide, by decide⟩
    · split at h
      · exact digF_small (.inl rfl) h
      · split at h
        · exact digF_small (.inr rfl) h
        · cases h
theorem bool_true_any (W : World) : Calls Tryz.prog 196 #[.bool true] W fun e W' => e = .returned (.agg #[.int .i64 0, .int .u64 1, .int .u64 0]) ∧ Below W.heap.size W W' := bv_Bool.calls true 0 1 0 W rfl
theorem bool_false_any (W : World) : Calls Tryz.prog 196 #[.bool false] W fun e W' => e = .returned (.agg #[.int .i64 0, .int .u64 0, .int .u64 0]) ∧ Below W.heap.size W W' := bv_Bool.calls false 0 0 0 W rfl
theorem Parse_bv_any (s : ByteArray) (hs : s.size ≤ 9223372036854775807) (W : World) :
    Calls Tryz.prog 144 #[.string s] W fun e W' => e = .returned (bvR (bvParse s.data.toList)) ∧ Below W.heap.size W W' := by
  have hl : s.data.toList.length = s.size := by rw [Array.length_toList]; rfl
  obtain ⟨R, hR⟩ : ∃ R, bvParse s.data.toList = R := ⟨_, rfl⟩
  rw [hR]
  unfold bvParse at hR
  have HC := Aside0.mk (Cells.new W 110 [.int .i64 0, .int .u64 0, .int .u64 0])
  have HB := Aside0.mk ((Below.refl _ W).alloc (Nat.le_refl _) (.cells #[.int .i64 0, .int .u64 0, .int .u64 0] 110))
  by_cases h1 : s.data.toList = [116, 114, 117, 101]
  · have e1 : (s.toList == [116, 114, 117, 101]) = true := by rw [ByteArray.toList_eq, h1]; rfl
    rw [if_pos h1] at hR
    have HR := Aside0.mk hR
    clear hR hl h1
    go_enter Tryz.func144, Tryz.ntmps144
    go_wp2_with fail
    refine (bool_true_any _).mono ?_
    rintro e w2 ⟨rfl, hB2⟩
    have HB2 := Aside0.mk (HB.out.trans (hB2.mono HB.out.size))
    have HZ2 := Aside0.mk (HC.out.below hB2)
    clear hB2
    have z0 := HZ2.out.cell 0 _ rfl
    have z1 := HZ2.out.cell 1 _ rfl
    have z2 := HZ2.out.cell 2 _ rfl
    have f0 := HZ2.out.frozen 0
    have f1 := HZ2.out.frozen 1
    have f2 := HZ2.out.frozen 2
    have HF := Aside0.mk (((HZ2.out.set 0 (.int .i64 0)).set 1 (.int .u64 1)).set 2 (.int .u64 0))
    have HB3 := Aside0.mk (((HB2.out.setCell (p := ⟨W.heap.size, 0, none⟩) (Nat.le_refl _) (.int .i64 0)).setCell (p := ⟨W.heap.size, 1, none⟩) (Nat.le_refl _) (.int .u64 1)).setCell (p := ⟨W.heap.size, 2, none⟩) (Nat.le_refl _) (.int .u64 0))
    go_wp2_with fail
    exact bodyPost_ret (results_cell_tmp rfl _ _ W.heap.size 110 #[.int .i64 0, .int .u64 1, .int .u64 0] (0, 0) _ (.int .i64 0) rfl rfl HF.out Tryz.underlying110 rfl (by kernel_rfl)) rfl ⟨by rw [← HR.out]; rfl, HB3.out⟩
  · rw [if_neg h1] at hR
    have e1 : (s.toList == [116, 114, 117, 101]) = false := by rw [ByteArray.toList_eq]; simpa using h1
    by_cases h2 : s.data.toList = [102, 97, 108, 115, 101]
    · have e2 : (s.toList == [102, 97, 108, 115, 101]) = true := by rw [ByteArray.toList_eq, h2]; rfl
      rw [if_pos h2] at hR
      have HR := Aside0.mk hR
      clear hR hl h1 h2
      go_enter Tryz.func144, Tryz.ntmps144
      go_wp2_with fail
      refine (bool_false_any _).mono ?_
      rintro e w2 ⟨rfl, hB2⟩
      have HB2 := Aside0.mk (HB.out.trans (hB2.mono HB.out.size))
      have HZ2 := Aside0.mk (HC.out.below hB2)
      clear hB2
      have z0 := HZ2.out.cell 0 _ rfl
      have z1 := HZ2.out.cell 1 _ rfl
      have z2 := HZ2.out.cell 2 _ rfl
      have f0 := HZ2.out.frozen 0
      have f1 := HZ2.out.frozen 1
      have f2 := HZ2.out.frozen 2
      have HF := Aside0.mk (((HZ2.out.set 0 (.int .i64 0)).set 1 (.int .u64 0)).set 2 (.int .u64 0))
      have HB3 := Aside0.mk (((HB2.out.setCell (p := ⟨W.heap.size, 0, none⟩) (Nat.le_refl _) (.int .i64 0)).setCell (p := ⟨W.heap.size, 1, none⟩) (Nat.le_refl _) (.int .u64 0)).setCell (p := ⟨W.heap.size, 2, none⟩) (Nat.le_refl _) (.int .u64 0))
      go_wp2_with fail
      exact bodyPost_ret (results_cell_tmp rfl _ _ W.heap.size 110 #[.int .i64 0, .int .u64 0, .int .u64 0] (0, 0) _ (.int .i64 0) rfl rfl HF.out Tryz.underlying110 rfl (by kernel_rfl)) rfl ⟨by rw [← HR.out]; rfl, HB3.out⟩
    · rw [if_neg h2] at hR
      have e2 : (s.toList == [102, 97, 108, 115, 101]) = false := by rw [ByteArray.toList_eq]; simpa using h2
      have hc1 := HC.out.alloc (.cells #[.int .i64 0, .int .u64 0, .int .u64 0] 110)
      have hc2 := Cells.new (W.alloc (.cells #[.int .i64 0, .int .u64 0, .int .u64 0] 110)) 110 [.int .i64 0, .int .u64 0, .int .u64 0]
      have hb2 := HB.out.alloc HB.out.size (.cells #[.int .i64 0, .int .u64 0, .int .u64 0] 110)
      have HR := Aside0.mk hR
      clear hR h1 h2
      go_enter Tryz.func144, Tryz.ntmps144
      go_upto_region 8 with (fail)
      obtain ⟨w0, hw0⟩ : ∃ w0, (W.alloc (.cells #[.int .i64 0, .int .u64 0, .int .u64 0] 110)).alloc (.cells #[.int .i64 0, .int .u64 0, .int .u64 0] 110) = w0 := ⟨_, rfl⟩
      have hc2 : Cells w0 (W.heap.size + 1) 110 [.int .i64 0, .int .u64 0, .int .u64 0] := by rw [← hw0]; simpa using hc2
      rw [hw0] at hc1 hb2 ⊢
      have HC1 := Aside0.mk hc1
      have HC2 := Aside0.mk hc2
      have HB2 := Aside0.mk hb2
      clear hw0 hc1 hc2 hb2
      go_wp2_with fail
      refine (HasPrefix_any _ 35 98 _).mono ?_
      rintro e w3 ⟨rfl, hB3⟩
      have HB3 := Aside0.mk (HB2.out.trans (hB3.mono HB2.out.size))
      have HC3 := Aside0.mk (HC1.out.below hB3)
      have HZ3 := Aside0.mk (HC2.out.below hB3)
      clear hB3
      by_cases hp1 : s.data.toList.take 2 = [35, 98]
      · have hq : (s.data.toList.take 2 == [35, 98]) = true := by rw [hp1]; rfl
        have hsz : 2 ≤ s.size := by have := congrArg List.length hp1; simp only [List.length_take, List.length_cons, List.length_nil] at this; omega
        have HR2 := HR.out
        rw [if_pos hp1] at HR2
        rw [hq]
        clear hq hp1
        have hsl : s.extract 2 s.size = s.extract 2 s.size := rfl
        obtain ⟨s2, hs2⟩ : ∃ t, s.extract 2 s.size = t := ⟨_, rfl⟩
        have hs2l : s2.data.toList = s.data.toList.drop 2 := by rw [← hs2, ext_list, List.take_of_length_le (by omega)]
        have hs2z : s2.size ≤ 9223372036854775807 := by
          have : s2.data.toList.length = s2.size := by rw [Array.length_toList]; rfl
          rw [← this, hs2l, List.length_drop]; omega
        have hD := digits_any 1 (by simp) s2 hs2z
        rw [hs2l] at hD
        obtain ⟨D, hDD⟩ : ∃ D, digitsV 1 (s.data.toList.drop 2) = D := ⟨_, rfl⟩
        rw [hDD] at hD
        have HR3 : Aside0 (D = R) := ⟨by rw [← hDD]; exact HR2⟩
        have HD := Aside0.mk hD
        have hle : ((2 : Int) ≤ (s.size : Int)) := by omega
        have hws : Aside0 (s2.size = s2.size) := ⟨rfl⟩
        clear hsl hs2l hs2z hD hDD
        go_wp2_with fail
        refine (HD.out _).mono ?_
        rintro e w4 ⟨rfl, hB4⟩
        have HB4 := Aside0.mk (HB3.out.trans (hB4.mono HB3.out.size))
        have HC4 := Aside0.mk (HC3.out.below hB4)
        have HZ4 := Aside0.mk (HZ3.out.below hB4)
        clear hB4
        have z0 := HZ4.out.cell 0 _ rfl
        have z1 := HZ4.out.cell 1 _ rfl
        have z2 := HZ4.out.cell 2 _ rfl
        have f0 := HZ4.out.frozen 0
        have f1 := HZ4.out.frozen 1
        have f2 := HZ4.out.frozen 2
        have y0 := HC4.out.cell 0 _ rfl
        have y1 := HC4.out.cell 1 _ rfl
        have y2 := HC4.out.cell 2 _ rfl
        have g0 := HC4.out.frozen 0
        have g1 := HC4.out.frozen 1
        have g2 := HC4.out.frozen 2
        cases D with
        | none =>
          have HR4 : Aside0 (bvR R = .tuple #[.agg #[.int .i64 0, .int .u64 0, .int .u64 0], .int .i64 13]) := ⟨by rw [← HR3.out]; rfl⟩
          unfold digR
          dsimp only
          go_wp2_with fail
          have HF := (((((HC4.out.far (p := ⟨W.heap.size + 1, 0, none⟩) (by simp) (.int .i64 0)).far (p := ⟨W.heap.size + 1, 1, none⟩) (by simp) (.int .u64 0)).far (p := ⟨W.heap.size + 1, 2, none⟩) (by simp) (.int .u64 0)).set 0 (.int .i64 0)).set 1 (.int .u64 0)).set 2 (.int .u64 0)
          have HB5 := (((((HB4.out.setCell (p := ⟨W.heap.size + 1, 0, none⟩) (by simp) (.int .i64 0)).setCell (p := ⟨W.heap.size + 1, 1, none⟩) (by simp) (.int .u64 0)).setCell (p := ⟨W.heap.size + 1, 2, none⟩) (by simp) (.int .u64 0)).setCell (p := ⟨W.heap.size, 0, none⟩) (by simp) (.int .i64 0)).setCell (p := ⟨W.heap.size, 1, none⟩) (by simp) (.int .u64 0)).setCell (p := ⟨W.heap.size, 2, none⟩) (by simp) (.int .u64 0)
          exact bodyPost_ret (results_cell_tmp rfl _ _ W.heap.size 110 #[.int .i64 0, .int .u64 0, .int .u64 0] (0, 0) _ (.int .i64 13) rfl rfl HF Tryz.underlying110 rfl (by kernel_rfl)) rfl ⟨by rw [HR4.out], HB5⟩
        | some v =>
          have HR4 : Aside0 (bvR R = .tuple #[bitsV v.w v.n, .int .i64 0]) := ⟨by rw [← HR3.out]; rfl⟩
          unfold digR
          dsimp only
          unfold bitsV at HR4 ⊢
          obtain ⟨a0, ha0⟩ : ∃ x, nlo v.n = x := ⟨_, rfl⟩
          obtain ⟨b0, hb0⟩ : ∃ x, nhi v.n = x := ⟨_, rfl⟩
          obtain ⟨wd, hwd⟩ : ∃ x, (v.w : Int) = x := ⟨_, rfl⟩
          rw [ha0, hb0, hwd] at HR4 ⊢
          clear ha0 hb0 hwd
          go_wp2_with fail
          have HF := (((((HC4.out.far (p := ⟨W.heap.size + 1, 0, none⟩) (by simp) (.int .i64 wd)).far (p := ⟨W.heap.size + 1, 1, none⟩) (by simp) (.int .u64 a0)).far (p := ⟨W.heap.size + 1, 2, none⟩) (by simp) (.int .u64 b0)).set 0 (.int .i64 wd)).set 1 (.int .u64 a0)).set 2 (.int .u64 b0)
          have HB5 := (((((HB4.out.setCell (p := ⟨W.heap.size + 1, 0, none⟩) (by simp) (.int .i64 wd)).setCell (p := ⟨W.heap.size + 1, 1, none⟩) (by simp) (.int .u64 a0)).setCell (p := ⟨W.heap.size + 1, 2, none⟩) (by simp) (.int .u64 b0)).setCell (p := ⟨W.heap.size, 0, none⟩) (by simp) (.int .i64 wd)).setCell (p := ⟨W.heap.size, 1, none⟩) (by simp) (.int .u64 a0)).setCell (p := ⟨W.heap.size, 2, none⟩) (by simp) (.int .u64 b0)
          exact bodyPost_ret (results_cell_tmp rfl _ _ W.heap.size 110 #[.int .i64 wd, .int .u64 a0, .int .u64 b0] (0, 0) _ (.int .i64 0) rfl rfl HF Tryz.underlying110 rfl (by kernel_rfl)) rfl ⟨by rw [HR4.out], HB5⟩
      · have hq : (s.data.toList.take 2 == [35, 98]) = false := by simpa using hp1
        have HR2 := HR.out
        rw [if_neg hp1] at HR2
        rw [hq]
        clear hq hp1
        go_wp2_with fail
        refine (HasPrefix_any _ 35 120 _).mono ?_
        have HBX := HB3
        have HCX := HC3
        have HZX := HZ3
        clear HB3 HC3 HZ3
        rintro e w5 ⟨rfl, hB5⟩
        have HB3 := Aside0.mk (HBX.out.trans (hB5.mono HBX.out.size))
        have HC3 := Aside0.mk (HCX.out.below hB5)
        have HZ3 := Aside0.mk (HZX.out.below hB5)
        clear hB5
        by_cases hp2 : s.data.toList.take 2 = [35, 120]
        · have hq : (s.data.toList.take 2 == [35, 120]) = true := by rw [hp2]; rfl
          have hsz : 2 ≤ s.size := by have := congrArg List.length hp2; simp only [List.length_take, List.length_cons, List.length_nil] at this; omega
          rw [if_pos hp2] at HR2
          rw [hq]
          clear hq hp2
          have hsl : s.extract 2 s.size = s.extract 2 s.size := rfl
          obtain ⟨s2, hs2⟩ : ∃ t, s.extract 2 s.size = t := ⟨_, rfl⟩
          have hs2l : s2.data.toList = s.data.toList.drop 2 := by rw [← hs2, ext_list, List.take_of_length_le (by omega)]
          have hs2z : s2.size ≤ 9223372036854775807 := by
            have : s2.data.toList.length = s2.size := by rw [Array.length_toList]; rfl
            rw [← this, hs2l, List.length_drop]; omega
          have hD := digits_any 4 (by simp) s2 hs2z
          rw [hs2l] at hD
          obtain ⟨D, hDD⟩ : ∃ D, digitsV 4 (s.data.toList.drop 2) = D := ⟨_, rfl⟩
          rw [hDD] at hD
          have HR3 : Aside0 (D = R) := ⟨by rw [← hDD]; exact HR2⟩
          have HD := Aside0.mk hD
          have hle : ((2 : Int) ≤ (s.size : Int)) := by omega
          have hws : Aside0 (s2.size = s2.size) := ⟨rfl⟩
          clear hsl hs2l hs2z hD hDD
          go_wp2_with fail
          refine (HD.out _).mono ?_
          rintro e w4 ⟨rfl, hB4⟩
          have HB4 := Aside0.mk (HB3.out.trans (hB4.mono HB3.out.size))
          have HC4 := Aside0.mk (HC3.out.below hB4)
          have HZ4 := Aside0.mk (HZ3.out.below hB4)
          clear hB4
          have z0 := HZ4.out.cell 0 _ rfl
          have z1 := HZ4.out.cell 1 _ rfl
          have z2 := HZ4.out.cell 2 _ rfl
          have f0 := HZ4.out.frozen 0
          have f1 := HZ4.out.frozen 1
          have f2 := HZ4.out.frozen 2
          have y0 := HC4.out.cell 0 _ rfl
          have y1 := HC4.out.cell 1 _ rfl
          have y2 := HC4.out.cell 2 _ rfl
          have g0 := HC4.out.frozen 0
          have g1 := HC4.out.frozen 1
          have g2 := HC4.out.frozen 2
          cases D with
          | none =>
            have HR4 : Aside0 (bvR R = .tuple #[.agg #[.int .i64 0, .int .u64 0, .int .u64 0], .int .i64 13]) := ⟨by rw [← HR3.out]; rfl⟩
            unfold digR
            dsimp only
            go_wp2_with fail
            have HF := (((((HC4.out.far (p := ⟨W.heap.size + 1, 0, none⟩) (by simp) (.int .i64 0)).far (p := ⟨W.heap.size + 1, 1, none⟩) (by simp) (.int .u64 0)).far (p := ⟨W.heap.size + 1, 2, none⟩) (by simp) (.int .u64 0)).set 0 (.int .i64 0)).set 1 (.int .u64 0)).set 2 (.int .u64 0)
            have HB5 := (((((HB4.out.setCell (p := ⟨W.heap.size + 1, 0, none⟩) (by simp) (.int .i64 0)).setCell (p := ⟨W.heap.size + 1, 1, none⟩) (by simp) (.int .u64 0)).setCell (p := ⟨W.heap.size + 1, 2, none⟩) (by simp) (.int .u64 0)).setCell (p := ⟨W.heap.size, 0, none⟩) (by simp) (.int .i64 0)).setCell (p := ⟨W.heap.size, 1, none⟩) (by simp) (.int .u64 0)).setCell (p := ⟨W.heap.size, 2, none⟩) (by simp) (.int .u64 0)
            exact bodyPost_ret (results_cell_tmp rfl _ _ W.heap.size 110 #[.int .i64 0, .int .u64 0, .int .u64 0] (0, 0) _ (.int .i64 13) rfl rfl HF Tryz.underlying110 rfl (by kernel_rfl)) rfl ⟨by rw [HR4.out], HB5⟩
          | some v =>
            have HR4 : Aside0 (bvR R = .tuple #[bitsV v.w v.n, .int .i64 0]) := ⟨by rw [← HR3.out]; rfl⟩
            unfold digR
            dsimp only
            unfold bitsV at HR4 ⊢
            obtain ⟨a0, ha0⟩ : ∃ x, nlo v.n = x := ⟨_, rfl⟩
            obtain ⟨b0, hb0⟩ : ∃ x, nhi v.n = x := ⟨_, rfl⟩
            obtain ⟨wd, hwd⟩ : ∃ x, (v.w : Int) = x := ⟨_, rfl⟩
            rw [ha0, hb0, hwd] at HR4 ⊢
            clear ha0 hb0 hwd
            go_wp2_with fail
            have HF := (((((HC4.out.far (p := ⟨W.heap.size + 1, 0, none⟩) (by simp) (.int .i64 wd)).far (p := ⟨W.heap.size + 1, 1, none⟩) (by simp) (.int .u64 a0)).far (p := ⟨W.heap.size + 1, 2, none⟩) (by simp) (.int .u64 b0)).set 0 (.int .i64 wd)).set 1 (.int .u64 a0)).set 2 (.int .u64 b0)
            have HB5 := (((((HB4.out.setCell (p := ⟨W.heap.size + 1, 0, none⟩) (by simp) (.int .i64 wd)).setCell (p := ⟨W.heap.size + 1, 1, none⟩) (by simp) (.int .u64 a0)).setCell (p := ⟨W.heap.size + 1, 2, none⟩) (by simp) (.int .u64 b0)).setCell (p := ⟨W.heap.size, 0, none⟩) (by simp) (.int .i64 wd)).setCell (p := ⟨W.heap.size, 1, none⟩) (by simp) (.int .u64 a0)).setCell (p := ⟨W.heap.size, 2, none⟩) (by simp) (.int .u64 b0)
            exact bodyPost_ret (results_cell_tmp rfl _ _ W.heap.size 110 #[.int .i64 wd, .int .u64 a0, .int .u64 b0] (0, 0) _ (.int .i64 0) rfl rfl HF Tryz.underlying110 rfl (by kernel_rfl)) rfl ⟨by rw [HR4.out], HB5⟩
        · have hq : (s.data.toList.take 2 == [35, 120]) = false := by simpa using hp2
          rw [if_neg hp2] at HR2
          rw [hq]
          have HR4 : Aside0 (bvR R = .tuple #[.agg #[.int .i64 0, .int .u64 0, .int .u64 0], .int .i64 13]) := ⟨by rw [← HR2]; rfl⟩
          clear hq hp2 HR2
          have y0 := HC3.out.cell 0 _ rfl
          have y1 := HC3.out.cell 1 _ rfl
          have y2 := HC3.out.cell 2 _ rfl
          have g0 := HC3.out.frozen 0
          have g1 := HC3.out.frozen 1
          have g2 := HC3.out.frozen 2
          go_wp2_with fail
          have HF := ((HC3.out.set 0 (.int .i64 0)).set 1 (.int .u64 0)).set 2 (.int .u64 0)
          have HB5 := ((HB3.out.setCell (p := ⟨W.heap.size, 0, none⟩) (by simp) (.int .i64 0)).setCell (p := ⟨W.heap.size, 1, none⟩) (by simp) (.int .u64 0)).setCell (p := ⟨W.heap.size, 2, none⟩) (by simp) (.int .u64 0)
          exact bodyPost_ret (results_cell_tmp rfl _ _ W.heap.size 110 #[.int .i64 0, .int .u64 0, .int .u64 0] (0, 0) _ (.int .i64 13) rfl rfl HF Tryz.underlying110 rfl (by kernel_rfl)) rfl ⟨by rw [HR4.out], HB5⟩
end Go.Proofs.YthhnhbpmpdminaaGreatDoor
/-
read.worker: word, of term. Conditions: the reader in memory.
-/
namespace Go.Proofs.YthhnhbpmpdminaaGreatDoor
set_option maxRecDepth 4096
set_option maxHeartbeats 8000000
set_option linter.unusedSimpArgs false
set_option linter.unusedVariables false
set_option linter.unnecessarySimpa false
open Go.RowKit Go.Proofs.YthhnhbpmpdminaaGreatDoorW.PrintWords Go.Maps
theorem readName_any (s : ByteArray) (W : World) (hs : s.size ≤ 9223372036854775807) : Calls Tryz.prog 29 #[.string s] W fun e W' => e = .returned (.bool (nameB s.data.toList)) ∧ Below W.heap.size W W' := by
  go_enter Tryz.func29, Tryz.ntmps29
  go_wp2_with fail
  refine (Name_any s W hs).mono ?_
  rintro e w1 ⟨rfl, hB⟩
  have HB := Aside0.mk hB
  clear hB
  go_wp2_with fail
  go_returns
  exact ⟨rfl, HB.out⟩
theorem RPost.pre {z : Zr} {w w1 w' : World} {E : List Ent} {vl : Value} {cs : List Value} {defs : Int} {R : Rs} {e : Ending} (hk : Below w.heap.size w w1) (hB : z.B ≤ w.heap.size) (h : RPost z w1 E vl cs defs R e w') : RPost z w E vl cs defs R e w' :=
  ⟨h.1, h.2.1, (KR.of_below hk).trans h.2.2.1, (hk.mono hB).trans h.2.2.2⟩
theorem RPost.new {z : Zr} {w w' : World} {E : List Ent} {vl : Value} {cs : List Value} {defs : Int} {r : Rd} (h : RI z w E vl cs defs r) (hk : Below w.heap.size w w') (hB : z.B ≤ w.heap.size) (id : Nat) (er : Int) : RPost z w E vl cs defs ((id, er), r) (.returned (.tuple #[.int .i64 (id : Int), .int .i64 er])) w' :=
  ⟨rfl, h.below hk, KR.of_below hk, hk.mono hB⟩
section
variable (z : Zr) (w : World) (E : List Ent) (vl : Value) (cs : List Value) (defs : Int) (r : Rd)
theorem wword_any (rec : Tm) (d : Nat) (hd : d ≤ 900) (ht : TermC z E vl cs defs rec (d + 1)) (hr : TmOk E rec rec) : WordC z E vl cs defs rec d := by
  intro w r s b p lim h hB hs hBL hbo hlim hn
  obtain ⟨R, hR⟩ : ∃ R, wordF E rec s b lim r = R := ⟨_, rfl⟩
  rw [hR]
  unfold wordF at hR
  unfold plV
  have hb0 := (Below.refl _ w).alloc (Nat.le_refl _) (.cells #[.pointer p, .int .i64 (lim : Int), .int .i64 (d : Int)] 139)
  have hc0 := Cells.new w 139 [.pointer p, .int .i64 (lim : Int), .int .i64 (d : Int)]
  have hs9 : s.size ≤ 9223372036854775807 := by unfold maxLen at hs; omega
  go_enter Tryz.func101, Tryz.ntmps101
  go_upto_region 1 with (fail)
  obtain ⟨w0, hw0⟩ : ∃ w0, w.alloc (.cells #[.pointer p, .int .i64 (lim : Int), .int .i64 (d : Int)] 139) = w0 := ⟨_, rfl⟩
  have hc0 : Cells w0 w.heap.size 139 [.pointer p, .int .i64 (lim : Int), .int .i64 (d : Int)] := by rw [← hw0]; exact hc0
  rw [hw0] at hb0 ⊢
  clear hw0
  have HH := Aside0.mk h
  have HT := Aside0.mk ht
  have HRR := Aside0.mk hr
  have HBL := Aside0.mk hBL
  have HBO := Aside0.mk hbo
  clear h ht hr hBL hbo
  go_wp2_with fail
  refine (Parse_bv_any s hs9 _).mono ?_
  rintro e w1 ⟨rfl, hB1⟩
  have HB1 := Aside0.mk (hb0.trans (hB1.mono hb0.size))
  have HC1 := Aside0.mk (hc0.below hB1)
  clear hb0 hc0 hB1
  cases hv : bvParse s.data.toList with
  | some v =>
    rw [hv] at hR
    have hR : constF v r = R := hR
    obtain ⟨hv1, hv2⟩ := bvParse_small hv
    have hcn := fun W h hB => constant_any z W E vl cs defs r v hv1 hv2 h hB
    rw [hR] at hcn
    unfold bvR
    dsimp only
    unfold bitsV at hcn ⊢
    obtain ⟨a0, ha0⟩ : ∃ x, nlo v.n = x := ⟨_, rfl⟩
    obtain ⟨b0, hb0⟩ : ∃ x, nhi v.n = x := ⟨_, rfl⟩
    obtain ⟨wd, hwd⟩ : ∃ x, (v.w : Int) = x := ⟨_, rfl⟩
    rw [ha0, hb0, hwd] at hcn ⊢
    have HCN := Aside0.mk hcn
    clear ha0 hb0 hwd hcn hv hR hv1 hv2
    go_wp2_with fail
    have hb2 := HB1.out.alloc HB1.out.size (.cells #[.int .i64 wd, .int .u64 a0, .int .u64 b0] 110)
    refine (HCN.out _ (HH.out.below hb2) (Nat.le_trans hB hb2.size)).mono ?_
    intro e w2 hp
    have hq := RPost.pre hb2 hB hp
    clear hp hb2
    obtain ⟨rfl, hq2⟩ := hq
    have HQ := Aside0.mk hq2
    clear hq2
    go_wp2_with fail
    go_returns
    exact ⟨rfl, HQ.out⟩
  | none =>
    rw [hv] at hR
    dsimp only at hR
    unfold bvR
    dsimp only
    clear hv
    obtain ⟨nb, hnb⟩ : ∃ x, nameB s.data.toList = x := ⟨_, rfl⟩
    rw [hnb] at hR
    have HNB := Aside0.mk hnb
    clear hnb
    go_wp2_with fail
    refine (readName_any s _ hs9).mono ?_
    rintro e w2 ⟨rfl, hB2⟩
    rw [HNB.out]
    have hb2 := HB1.out.alloc HB1.out.size (.cells #[.int .i64 0, .int .u64 0, .int .u64 0] 110)
    have HB2 := Aside0.mk (hb2.trans (hB2.mono hb2.size))
    have HC2 := Aside0.mk ((HC1.out.alloc (.cells #[.int .i64 0, .int .u64 0, .int .u64 0] 110)).below hB2)
    clear hB2 hb2
    cases nb with
    | false =>
      rw [if_pos rfl] at hR
      have HR := Aside0.mk hR
      clear hR
      go_wp2_with fail
      go_returns
      rw [← HR.out]
      exact RPost.new HH.out HB2.out hB 0 50
    | true =>
      rw [if_neg (by simp)] at hR
      have q0 := HC2.out.cell 0 _ rfl
      have q1 := HC2.out.cell 1 _ rfl
      have q2 := HC2.out.cell 2 _ rfl
      go_wp2_with fail
      refine (bound_any z _ s b p lim d (BL.next (KR.of_below HB2.out) HBL.out)).mono ?_
      rintro e w3 ⟨rfl, hB3⟩
      have HB3 := Aside0.mk (HB2.out.trans (hB3.mono HB2.out.size))
      have HC3 := Aside0.mk (HC2.out.below hB3)
      clear q0 q1 q2 hB3
      obtain ⟨bd, hbd⟩ : ∃ x, boundV s b = x := ⟨_, rfl⟩
      rw [hbd] at hR ⊢
      clear hbd
      by_cases hb0 : 0 < bd
      · rw [if_pos hb0] at hR
        have HR := Aside0.mk hR
        clear hR
        have hb1 : (0 : Int) < (bd : Int) := by omega
        clear hb0
        go_wp2_with fail
        go_returns
        rw [← HR.out]
        exact RPost.new HH.out HB3.out hB bd 0
      · rw [if_neg hb0] at hR
        obtain rfl : bd = 0 := by omega
        clear hb0
        have q0 := HC3.out.cell 0 _ rfl
        have q1 := HC3.out.cell 1 _ rfl
        have q2 := HC3.out.cell 2 _ rfl
        have hsn := seen_any z w3 E vl cs defs r s hs p lim d (by have := HH.out.sc.len; omega) (HH.out.below HB3.out)
        have HSN := Aside0.mk hsn
        clear hsn
        go_wp2_with fail
        refine HSN.out.mono ?_
        rintro e w4 ⟨hB4, hsv⟩
        have HB4 := Aside0.mk (HB3.out.trans (hB4.mono HB3.out.size))
        have HC4 := Aside0.mk (HC3.out.below hB4)
        have H34 := Aside0.mk hB4
        clear q0 q1 q2 hB4
        cases hx : seenV E lim s with
        | none =>
          rw [hx] at hsv hR
          dsimp only at hsv hR
          subst hsv
          have HR := Aside0.mk hR
          clear hR hx
          unfold ent0
          go_wp2_with fail
          go_returns
          rw [← HR.out]
          exact RPost.new HH.out (HB4.out.alloc HB4.out.size _) hB 0 51
        | some ie =>
          obtain ⟨i, en⟩ := ie
          rw [hx] at hsv hR
          dsimp only at hsv hR
          obtain ⟨ec, hE, rfl⟩ := hsv
          have HX := Aside0.mk hx
          clear hx
          have hE2 := hE.next (KR.of_below H34.out)
          obtain ⟨pa, pc, ba, bc, rfl, hp1, hp2, _⟩ := hE
          obtain ⟨df, hdf⟩ : ∃ b, en.defined = b := ⟨_, rfl⟩
          obtain ⟨n, hnn⟩ : ∃ n, en.params.length = n := ⟨_, rfl⟩
          rw [hdf] at hR
          rw [hdf, hnn] at hE2 ⊢
          rw [hnn] at hp1
          have HN := Aside0.mk hnn
          have hb5 := HB4.out.alloc HB4.out.size (.cells #[.string en.name, .bool df, .slice pa n pc, .int .i64 en.sort, .string en.body.word, .bool en.body.list, .slice ba en.body.kids.length bc] 129)
          have HB5 := Aside0.mk hb5
          clear hdf hnn hb5
          cases df with
          | false =>
            rw [if_neg (by simp)] at hR
            have HR := Aside0.mk hR
            have HI := HH.out.below HB5.out
            have c0 := HI.wk.cell 0 _ rfl
            have s0 := HI.sc.scope.cell 0 _ rfl
            obtain ⟨vn, hg⟩ := HI.gi
            have HG := Aside0.mk hg
            clear hR hE2 hg HI
            go_wp2_with fail
            refine (Var_any z.B z.g z.bi z.bn r.G vn s _ HG.out hs).mono ?_
            rintro e w6 ⟨⟨b, rfl⟩, rfl⟩
            obtain ⟨k, hk⟩ : ∃ k, nix r.G.l s = k := ⟨_, rfl⟩
            rw [hk] at HR ⊢
            clear hk c0 s0
            go_wp2_with fail
            go_returns
            rw [← HR.out]
            exact RPost.new HH.out HB5.out hB k 0
          | true =>
            rw [if_pos rfl] at hR
            by_cases hn0 : n = 0
            · subst hn0
              have hp0 : en.params = [] := List.eq_nil_of_length_eq_zero HN.out
              rw [if_neg (by simp [hp0])] at hR
              obtain ⟨hi1, _, hi2, _⟩ := seen_get HX.out
              have hbd := body_any z (w4.alloc (.cells #[.string en.name, .bool true, .slice pa 0 pc, .int .i64 en.sort, .string en.body.word, .bool en.body.list, .slice ba en.body.kids.length bc] 129)) E vl cs defs r rec d hd HT.out en _ i [] (.slice none 0 0) p lim (hE2.next (KR.of_below ((Below.refl _ w4).alloc (Nat.le_refl _) _))) ⟨none, 0, rfl, fun q => absurd rfl q⟩ (by rw [hp0]; rfl) hi1 hi2 (by intro q hq; simp at hq) HRR.out (HH.out.below HB5.out) (Nat.le_trans hB HB5.out.size) hn
              rw [hR] at hbd
              unfold plV at hbd
              have HBD := Aside0.mk hbd
              have q0 := (HC4.out.alloc (.cells #[.string en.name, .bool true, .slice pa 0 pc, .int .i64 en.sort, .string en.body.word, .bool en.body.list, .slice ba en.body.kids.length bc] 129)).cell 0 _ rfl
              have q1 := (HC4.out.alloc (.cells #[.string en.name, .bool true, .slice pa 0 pc, .int .i64 en.sort, .string en.body.word, .bool en.body.list, .slice ba en.body.kids.length bc] 129)).cell 1 _ rfl
              have q2 := (HC4.out.alloc (.cells #[.string en.name, .bool true, .slice pa 0 pc, .int .i64 en.sort, .string en.body.word, .bool en.body.list, .slice ba en.body.kids.length bc] 129)).cell 2 _ rfl
              clear hR hE2 hbd hi1 hi2 hp0
              go_wp2_with fail
              refine HBD.out.mono ?_
              intro e w6 hp
              have hq := RPost.pre HB5.out hB hp
              clear hp
              obtain ⟨rfl, hq2⟩ := hq
              have HQ := Aside0.mk hq2
              clear hq2
              go_wp2_with fail
              go_returns
              exact ⟨rfl, HQ.out⟩
            · rw [if_pos (by rw [Ne, ← List.length_eq_zero_iff, HN.out]; exact hn0)] at hR
              have HR := Aside0.mk hR
              have hn1 : (0 : Int) < (n : Int) := by omega
              clear hR hE2 hn0
              go_wp2_with fail
              go_returns
              rw [← HR.out]
              exact RPost.new HH.out HB5.out hB 0 54
end
end Go.Proofs.YthhnhbpmpdminaaGreatDoor
