/-
dimacs.Print: the text of clauses. Conditions: how many clauses and numbers there are; the table of powers of ten is as it is laid.
-/
import Derived.Test.YthhnhbpmpdminaaGreatDoorXD
import Derived.Test.YthhnhbpmpdminaaGreatDoorScs
import Derived.Test.YthhnhbpmpdminaaGreatDoorDpq
import Derived.Lib.AppendIntMem
namespace Go.Proofs.YthhnhbpmpdminaaGreatDoor
set_option maxRecDepth 4096
open Go.RowKit Go.Lib Go.Proofs.YthhnhbpmpdminaaGreatDoorW.PrintWords Go.Proofs.YthhnhbpmpdminaaGreatDoorW.PrintMore PDimacsPrint
attribute [local go_sem] max2_int min2_int max_two min_two max_three min_three

def TP (w : World) : Prop := Lib.TabIs Tryz.prog w "internal/strconv.uint64pow10" .u64 Lib.pow10Tab
theorem TP.up {w w' : World} (h : TP w) (hb : Below w.heap.size w w') : TP w' := Lib.tabBelow_of_tabIs h w' hb
theorem below_grow (w : World) (k : Nat) (os : Array Obj) : Below w.heap.size w (Go.Sort.grow (w.drewN k) os) :=
  ⟨rfl, rfl, rfl, by simp, fun i hi => by
    show (w.heap ++ os)[i]? = w.heap[i]?
    rw [Array.getElem?_append_left hi]⟩
theorem itoa_any (n : Int) (w : World) (h : -1000000000 < n ∧ n < 1000000000) (ht : TP w) : Calls Tryz.prog 53 #[.int .i64 n] w fun e w' => e = .returned (.string (BA (itoa n))) ∧ Below w.heap.size w w' := by
  refine (Any.strconv_Itoa Tryz.laysM171 n (by omega) (by omega) w ht).mono ?_
  rintro e w' ⟨he, k, os, rfl⟩
  exact ⟨he, below_grow _ _ _⟩
theorem len_any (B b : Nat) (l : List UInt8) (w : World) (h : Bd w B b l) : Calls Tryz.prog 54 #[.pointer (some ⟨b, 0, none⟩)] w fun e w' => e = .returned (.int .i64 (l.length : Int)) ∧ w' = w := by
  have := Any.Builder_Len Tryz.lays170 B b (Lib.byteCells l) w h
  rw [Lib.byteCells_length] at this
  exact this
theorem Bd.up {w w' : World} {B b : Nat} {l : List UInt8} (h : Bd w B b l) (hb : Below w.heap.size w w') : Bd w' B b l :=
  h.keep ⟨hb.os, hb.tape, hb.output, hb.size, fun k hk _ => hb.block k hk⟩
def PrintPost (w : World) (l : List (List Int)) (e : Ending) (w' : World) : Prop :=
  ∃ t n, e = .returned (.tuple #[.string t, .int .i64 n]) ∧ ((okL l ∧ t = BA (prT l) ∧ n = 0) ∨ (¬ okL l ∧ t = ⟨#[]⟩ ∧ n = 190)) ∧ Below w.heap.size w w'
theorem take_snoc {α : Type} {l : List α} {i : Nat} {c : α} (h : l[i]? = some c) : l.take (i + 1) = l.take i ++ [c] := by
  rw [List.take_add_one, h]; rfl
theorem bulk_snoc (l : List (List Int)) (c : List Int) : bulk (l ++ [c]) = bulk l + c.length + 1 := by simp [bulk]; omega
theorem bulk_take (l : List (List Int)) (i : Nat) : bulk (l.take i) ≤ bulk l := by
  have h : bulk l = bulk (l.take i) + bulk (l.drop i) := by
    rw [← List.take_append_drop i l]
    simp only [List.take_append_drop]
    have : ∀ a b : List (List Int), bulk (a ++ b) = bulk a + bulk b := by intro a b; simp [bulk]; omega
    rw [← this, List.take_append_drop]
  omega
theorem flat_at {α : Type} (f : α → List UInt8) (l : List α) (i : Nat) (x : α) (h : l[i]? = some x) : ((l.take i).flatMap f).length + (f x).length ≤ (l.flatMap f).length := by
  have hl := (List.getElem?_eq_some_iff.1 h).1
  have e : l.flatMap f = (l.take i).flatMap f ++ (f x ++ (l.drop (i + 1)).flatMap f) := by
    rw [← List.flatMap_cons, ← List.flatMap_append]
    congr 1
    rw [← (List.getElem?_eq_some_iff.1 h).2, ← List.drop_eq_getElem_cons hl, List.take_append_drop]
  rw [e]
  simp only [List.length_append]
  omega
theorem flat_snoc {α : Type} (f : α → List UInt8) (l : List α) (i : Nat) (x : α) (h : l[i]? = some x) : (l.take (i + 1)).flatMap f = (l.take i).flatMap f ++ f x := by
  rw [take_snoc h, List.flatMap_append]; simp
set_option maxHeartbeats 8000000 in
theorem Print_any (A : Option Addr) (c : Nat) (l : List (List Int)) (w : World) (hC : Kd.C (Kd.slice 3 (Kd.int .i64)) w A l.length l) (hb : bulk l ≤ 3000) (ht : TP w) :
    Calls Tryz.prog 19 #[.slice A l.length c] w fun e w' => PrintPost w l e w' := by
  have hll : l.length ≤ 3000 := by unfold bulk at hb; omega
  have HC := Aside0.mk hC
  have HT := Aside0.mk ht
  clear hC ht
  go_enter Tryz.func19, Tryz.ntmps19
  go_wp2_with fail
  go_loopw [4, 5, 17] (fun v4 v5 v17 wr => ∃ (i : Nat) (m : Int), i ≤ l.length ∧ v17 = .int .i64 (i : Int) ∧ v4 = .int .i64 m ∧ v5 = .int .i64 ((bulk (l.take i) : Nat) : Int) ∧ Aside0 (okL (l.take i)) ∧ Aside0 (m = (l.take i).foldl mostC 0) ∧ wr = w) (fun _ _ v17 _ => l.length - (intOf v17).toNat)
  case atStart => exact ⟨0, 0, by omega, rfl, rfl, rfl, ⟨fun x hx => by cases hx⟩, ⟨rfl⟩, rfl⟩
  case round =>
    obtain ⟨i, m, hi, rfl, rfl, rfl, AO, AM, rfl⟩ := hrel
    by_cases hlt : i < l.length
    · obtain ⟨x, hx⟩ : ∃ x, l[i]? = some x := ⟨_, List.getElem?_eq_getElem hlt⟩
      have hlt' : (i : Int) < (l.length : Int) := by omega
      obtain ⟨ad, A0, c0, rfl, hcell, hl0, hC0⟩ := at_L1 HC.out (i : Int) (by omega) hlt'
      rw [rdc hx] at hcell hl0 hC0
      have hcell : wr.cell? (ad.add i) = some (.slice A0 x.length c0) := hcell
      have hxb := bulk_row (List.mem_of_getElem? hx)
      have hbt := bulk_take l i
      have hbs := bulk_snoc (l.take i) x
      rw [← take_snoc hx] at hbs
      have hbt1 := bulk_take l (i + 1)
      have HX := Aside0.mk hx
      have HC0 := Aside0.mk hC0
      have hm0 := mostA_le (l.take i) 0 (by omega) (by omega) AO.out
      rw [← AM.out] at hm0
      obtain ⟨hm1, hm2⟩ := hm0
      clear hx hC0
      go_wp2_with fail
      go_loopw [4, 23] (fun v4 v23 wq => ∃ (j : Nat) (m' : Int), j ≤ x.length ∧ v23 = .int .i64 (j : Int) ∧ v4 = .int .i64 m' ∧ Aside0 (okC (x.take j)) ∧ Aside0 (m' = mostC m (x.take j)) ∧ wq = wr) (fun _ v23 _ => x.length - (intOf v23).toNat)
      case atStart => exact ⟨0, m, by omega, rfl, rfl, ⟨fun x hx => by cases hx⟩, ⟨rfl⟩, rfl⟩
      case round =>
        obtain ⟨j, m', hj, rfl, rfl, BO, BM, rfl⟩ := hrel
        by_cases hjt : j < x.length
        · obtain ⟨n, hn⟩ : ∃ n, x[j]? = some n := ⟨_, List.getElem?_eq_getElem hjt⟩
          have hjt' : (j : Int) < (x.length : Int) := by omega
          obtain ⟨ad2, rfl, hn0⟩ := Kd.at_int HC0.out (j : Int) (by omega) hjt'
          rw [rdn hn] at hn0
          have hn0 : wr.cell? (ad2.add j) = some (.int .i64 n) := hn0
          have hnx := List.mem_of_getElem? hn
          have HN := Aside0.mk hn
          have HNX := Aside0.mk hnx
          clear hn hnx
          have BAD : Aside0 (¬ okN n → ¬ okL l) := ⟨fun q ho => q (ho x (List.mem_of_getElem? HX.out) n HNX.out)⟩
          by_cases k0 : n = 0
          · subst k0
            go_wp2_with fail
            go_returns
            exact ⟨_, _, rfl, .inr ⟨BAD.out (fun q => q.1 rfl), rfl, rfl⟩, Below.refl _ _⟩
          · by_cases k1 : 65536 < n
            · go_wp2_with fail
              go_returns
              exact ⟨_, _, rfl, .inr ⟨BAD.out (fun q => by have := q.2.1; omega), rfl, rfl⟩, Below.refl _ _⟩
            · by_cases k2 : n < -65536
              · go_wp2_with fail
                go_returns
                exact ⟨_, _, rfl, .inr ⟨BAD.out (fun q => by have := q.2.2; omega), rfl, rfl⟩, Below.refl _ _⟩
              · have hw : wrap64 (-n) = -n := w64 (by omega)
                have BO2 : Aside0 (okC (x.take (j + 1))) := ⟨by
                  rw [take_snoc HN.out]
                  intro y hy
                  rcases List.mem_append.1 hy with hy | hy
                  · exact BO.out y hy
                  · rw [List.mem_singleton] at hy; subst hy; exact ⟨k0, by omega, by omega⟩⟩
                have BM2 : Aside0 (mx (mx m' n) (-n) = mostC m (x.take (j + 1))) := ⟨by
                  rw [mx_max, mx_max]
                  rw [take_snoc HN.out]
                  unfold mostC
                  rw [List.foldl_append, BM.out]; rfl⟩
                go_wp2_with fail
                exact ⟨⟨j + 1, mx (mx m' n) (-n), by omega, by simp, rfl, BO2, BM2, trivial⟩, by simp [intOf]; omega⟩
        · have hje : j = x.length := by omega
          subst hje
          have BO := BO.out
          rw [List.take_length] at BO BM
          have AO2 : Aside0 (okL (l.take (i + 1))) := ⟨by
            rw [take_snoc HX.out]
            intro y hy
            rcases List.mem_append.1 hy with hy | hy
            · exact AO.out y hy
            · rw [List.mem_singleton] at hy; subst hy; exact BO⟩
          have AM2 : Aside0 (m' = (l.take (i + 1)).foldl mostC 0) := ⟨by
            rw [take_snoc HX.out, List.foldl_append, ← AM.out, BM.out]; rfl⟩
          have hw1 : wrap64 ((x.length : Int) + 1) = (x.length : Int) + 1 := w64 (by omega)
          go_wp2_with fail
          exact ⟨⟨i + 1, m', by omega, by simp, rfl, by rw [hbs]; simp; omega, AO2, AM2, trivial⟩, by simp [intOf]; omega⟩
    · have hie : i = l.length := by omega
      subst hie
      rename World => ws
      have hok := AO.out
      rw [List.take_length] at hok AM
      have HOK := Aside0.mk hok
      have hm0 := mostA_le l 0 (by omega) (by omega) hok
      rw [← AM.out] at hm0
      obtain ⟨hm1, hm2⟩ := hm0
      have hsz : ¬ (65536 : Int) < ((bulk (l.take l.length) : Nat) : Int) := by rw [List.take_length]; omega
      have hpl := prT_len l hok (by omega)
      clear hok AO
      go_wp2_with fail
      have hbd : Bd (ws.alloc (.cells #[.pointer none, .slice none 0 0] 97)) ws.heap.size ws.heap.size [] := by
        refine .inl ⟨Nat.le_refl _, .slice none 0 0, ?_, World.ownsRow_nil _ _ _ _, by simp [Value.ownBlock]⟩
        have := Cells.new ws 97 [.pointer none, .slice none 0 0]
        simpa [Cells] using this
      have hB0 : Below ws.heap.size ws (ws.alloc (.cells #[.pointer none, .slice none 0 0] 97)) := (Below.refl _ _).alloc (Nat.le_refl _) _
      have hz0 : ws.heap.size ≤ (ws.alloc (.cells #[.pointer none, .slice none 0 0] 97)).heap.size := by simp
      generalize (ws.alloc (.cells #[.pointer none, .slice none 0 0] 97)) = w0 at hbd hB0 hz0 ⊢
      have HB0 := Aside0.mk hB0
      have HD0 := Aside0.mk hbd
      clear hB0 hbd
      refine (itoa_any m _ (by omega) (HT.out.up HB0.out)).mono ?_
      rintro e w1 ⟨rfl, hB⟩
      have HB1 := Aside0.mk (HB0.out.trans (hB.mono hz0))
      have HD1 := Aside0.mk (HD0.out.up hB)
      have hz1 := Nat.le_trans hz0 hB.size
      have hi1 := (itoa_bytes (n := m) (by omega)).2.1
      have hi2 := (itoa_bytes (n := (l.length : Int)) (by omega)).2.1
      obtain ⟨s1, hs1⟩ : ∃ s1, s1 = BA (itoa m) := ⟨_, rfl⟩
      obtain ⟨s2, hs2⟩ : ∃ s2, s2 = BA (itoa (l.length : Int)) := ⟨_, rfl⟩
      have hl1 : s1.size ≤ 10 := by rw [hs1, BA_size]; exact hi1
      have hl2 : s2.size ≤ 10 := by rw [hs2, BA_size]; exact hi2
      have hd1 : s1.data.toList = itoa m := by rw [hs1]; simp [BA]
      have hd2 : s2.data.toList = itoa (l.length : Int) := by rw [hs2]; simp [BA]
      rw [← hs1]
      have HS1 := Aside0.mk hd1
      have HS2 := Aside0.mk hd2
      have HQ2 := Aside0.mk hs2
      clear hB hs1 hs2 hd1 hd2
      have cx0 : (9223372036854775807 < 6 + s1.size) = False := eq_false (by omega)
      have cx1 : (9223372036854775807 < 6 + s1.size + 1) = False := eq_false (by omega)
      have cx2 : (9223372036854775807 < 6 + s1.size + 1 + s2.size) = False := eq_false (by omega)
      have cx3 : (9223372036854775807 < 6 + s1.size + 1 + s2.size + 1) = False := eq_false (by omega)
      go_wp2_with fail
      refine (itoa_any (l.length : Int) _ (by omega) (HT.out.up HB1.out)).mono ?_
      rintro e w2 ⟨rfl, hB⟩
      rw [← HQ2.out]
      have HB2 := Aside0.mk (HB1.out.trans (hB.mono hz1))
      have HD2 := Aside0.mk (HD1.out.up hB)
      have hz2 := Nat.le_trans hz1 hB.size
      clear hB
      go_wp2_with fail
      have hpb : (prT l).length ≤ 65536 := by omega
      have hhd : (headT l).length + (l.flatMap clT).length = (prT l).length := by unfold prT; rw [List.length_append]
      refine (wstring_any ws.heap.size ws.heap.size [] _ _ HD2.out (by simp only [ByteArray.size_append, List.length_nil]; have e1 : (⟨#[112, 32, 99, 110, 102, 32]⟩ : ByteArray).size = 6 := rfl; have e2 : (⟨#[32]⟩ : ByteArray).size = 1 := rfl; have e3 : (⟨#[10]⟩ : ByteArray).size = 1 := rfl; omega) hz2).mono ?_
      rintro e w3 ⟨rfl, hu, hmod⟩
      have ehd : [] ++ ((⟨#[112, 32, 99, 110, 102, 32]⟩ : ByteArray) ++ s1 ++ ⟨#[32]⟩ ++ s2 ++ ⟨#[10]⟩).data.toList = headT l := by
        simp only [app_data, HS1.out, HS2.out, AM.out]
        rfl
      rw [ehd] at hu
      have hB := hmod.belowB (fun k hk => hk.1) hz2
      have HB3 := Aside0.mk (HB2.out.trans hB)
      have HU3 := Aside0.mk hu
      have hz3 := Nat.le_trans hz2 hB.size
      clear hu hmod hB ehd cx0 cx1 cx2 cx3
      go_wp2_with fail
      go_loopw [63] (fun v63 wq => ∃ (i : Nat), i ≤ l.length ∧ v63 = .int .i64 (i : Int) ∧ Aside0 (Bu wq ws.heap.size ws.heap.size (headT l ++ (l.take i).flatMap clT)) ∧ Aside0 (Below ws.heap.size ws wq)) (fun v63 _ => l.length - (intOf v63).toNat)
      case atStart => exact ⟨0, by omega, rfl, ⟨by simpa using HU3.out⟩, HB3⟩
      case round =>
        obtain ⟨i, hi, rfl, HU, HBq⟩ := hrel
        have hzq := HBq.out.size
        by_cases hlt : i < l.length
        · obtain ⟨x, hx⟩ : ∃ x, l[i]? = some x := ⟨_, List.getElem?_eq_getElem hlt⟩
          have hlt' : (i : Int) < (l.length : Int) := by omega
          obtain ⟨ad, A0, c0, rfl, hcell, hl0, hC0⟩ := at_L1 HC.out (i : Int) (by omega) hlt'
          rw [rdc hx] at hcell hl0 hC0
          have hcell : wr.cell? (ad.add i) = some (.slice A0 x.length c0) := (HBq.out.cell (World.block_lt_of_cell? _ _ hcell)).trans hcell
          have hxb := bulk_row (List.mem_of_getElem? hx)
          have hfa := flat_at clT l i x hx
          have hfs := flat_snoc clT l i x hx
          have hox := HOK.out x (List.mem_of_getElem? hx)
          have hcl : (x.flatMap numT).length + 2 = (clT x).length := by unfold clT; rw [List.length_append]; rfl
          have HX := Aside0.mk hx
          have HC0 := Aside0.mk hC0
          have HOX := Aside0.mk hox
          have HFS := Aside0.mk hfs
          clear hx hC0 hox hfs
          go_wp2_with fail
          go_loopw [69] (fun v69 wi => ∃ (j : Nat), j ≤ x.length ∧ v69 = .int .i64 (j : Int) ∧ Aside0 (Bu wi ws.heap.size ws.heap.size (headT l ++ (l.take i).flatMap clT ++ (x.take j).flatMap numT)) ∧ Aside0 (Below ws.heap.size ws wi)) (fun v69 _ => x.length - (intOf v69).toNat)
          case atStart => exact ⟨0, by omega, rfl, ⟨by simpa using HU.out⟩, HBq⟩
          case round =>
            obtain ⟨j, hj, rfl, HV, HBi⟩ := hrel
            have hzi := HBi.out.size
            by_cases hjt : j < x.length
            · obtain ⟨n, hn⟩ : ∃ n, x[j]? = some n := ⟨_, List.getElem?_eq_getElem hjt⟩
              have hjt' : (j : Int) < (x.length : Int) := by omega
              obtain ⟨ad2, rfl, hn0⟩ := Kd.at_int HC0.out (j : Int) (by omega) hjt'
              rw [rdn hn] at hn0
              have hn0 : wr.cell? (ad2.add j) = some (.int .i64 n) := (HBi.out.cell (World.block_lt_of_cell? _ _ hn0)).trans hn0
              have hon := okN_rng (HOX.out n (List.mem_of_getElem? hn))
              have hna := flat_at numT x j n hn
              have hns := flat_snoc numT x j n hn
              have hn5 : (numT n).length = (itoa n).length + 1 := by simp [numT]
              have HN := Aside0.mk hn
              have HNS := Aside0.mk hns
              clear hn hns
              go_wp2_with fail
              refine (itoa_any n _ hon (HT.out.up HBi.out)).mono ?_
              rintro e w4 ⟨rfl, hB⟩
              have HB4 := Aside0.mk (HBi.out.trans (hB.mono hzi))
              have HV4 := Aside0.mk (HV.out.bd.up hB)
              have hz4 := Nat.le_trans hzi hB.size
              have hi3 := (itoa_bytes hon).2.1
              obtain ⟨s3, hs3⟩ : ∃ s3, s3 = BA (itoa n) := ⟨_, rfl⟩
              have hl3 : s3.size ≤ 10 := by rw [hs3, BA_size]; exact hi3
              have hl4 : s3.size = (itoa n).length := by rw [hs3, BA_size]
              have hd3 : s3.data.toList = itoa n := by rw [hs3]; simp [BA]
              rw [← hs3]
              have HS3 := Aside0.mk hd3
              clear hB hs3 hd3
              have cx4 : (9223372036854775807 < s3.size + 1) = False := eq_false (by omega)
              go_wp2_with fail
              refine (wstring_any ws.heap.size ws.heap.size _ _ _ HV4.out (by simp only [ByteArray.size_append, List.length_append]; have e1 : (⟨#[32]⟩ : ByteArray).size = 1 := rfl; omega) hz4).mono ?_
              rintro e w5 ⟨rfl, hu, hmod⟩
              have e3 : headT l ++ (l.take i).flatMap clT ++ (x.take j).flatMap numT ++ (s3 ++ ⟨#[32]⟩).data.toList = headT l ++ (l.take i).flatMap clT ++ (x.take (j + 1)).flatMap numT := by
                rw [HNS.out, app_data, HS3.out, ← List.append_assoc]
                simp [numT]
              rw [e3] at hu
              have hB := hmod.belowB (fun k hk => hk.1) hz4
              have HB5 := Aside0.mk (HB4.out.trans hB)
              have HU5 := Aside0.mk hu
              clear hu hmod hB e3 cx4
              go_wp2_with fail
              exact ⟨⟨j + 1, by omega, by simp, HU5, HB5⟩, by simp [intOf]; omega⟩
            · have hje : j = x.length := by omega
              subst hje
              have HV := HV.out
              rw [List.take_length] at HV
              have HV := Aside0.mk HV
              go_wp2_with fail
              refine (wstring_any ws.heap.size ws.heap.size _ _ _ HV.out.bd (by simp only [List.length_append]; have e1 : (⟨#[48, 10]⟩ : ByteArray).size = 2 := rfl; omega) hzi).mono ?_
              rintro e w5 ⟨rfl, hu, hmod⟩
              have e3 : headT l ++ (l.take i).flatMap clT ++ x.flatMap numT ++ (⟨#[48, 10]⟩ : ByteArray).data.toList = headT l ++ (l.take (i + 1)).flatMap clT := by
                rw [HFS.out]
                simp [clT]
              rw [e3] at hu
              have hB := hmod.belowB (fun k hk => hk.1) hzi
              have HB5 := Aside0.mk (HBi.out.trans hB)
              have HU5 := Aside0.mk hu
              clear hu hmod hB e3
              go_wp2_with fail
              exact ⟨⟨i + 1, by omega, by simp, HU5, HB5⟩, by simp [intOf]; omega⟩
        · have hie : i = l.length := by omega
          subst hie
          have HV := HU.out
          rw [List.take_length] at HV
          have HV : Bu wr ws.heap.size ws.heap.size (prT l) := HV
          have HV := Aside0.mk HV
          have hp1 : ¬ (65536 : Int) < ((prT l).length : Int) := by omega
          go_wp2_with fail
          refine (len_any ws.heap.size ws.heap.size _ _ HV.out.bd).mono ?_
          rintro e w5 ⟨rfl, rfl⟩
          generalize (prT l).length = N at hp1 hpb hhd hpl ⊢
          clear hpb hhd hpl hsz
          go_wp2_with fail
          refine (string_any ws.heap.size ws.heap.size _ _ HV.out.bd hzq).mono ?_
          rintro e w5 ⟨rfl, hB⟩
          have HB5 := Aside0.mk (HBq.out.trans hB)
          clear hB
          go_wp2_with fail
          go_returns
          exact ⟨_, _, rfl, .inl ⟨HOK.out, rfl, rfl⟩, HB5.out⟩
end Go.Proofs.YthhnhbpmpdminaaGreatDoor
