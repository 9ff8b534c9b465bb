/-
Several texts as one: Dlb Rws.
-/
import Derived.Test.YthhnhbpmpdminaaGreatDoorXE
import Derived.Test.YthhnhbpmpdminaaGreatDoorDbp
import Derived.Test.YthhnhbpmpdminaaGreatDoorDro
import Derived.Deep.Matrix
import Derived.SizedLaws
/-
The law DimacsBlanks, walked. Conditions: errors.errorType, the powers of ten and bytealg.MaxLen are as they are laid; the lengths can be counted.
-/
namespace Go.Proofs.YthhnhbpmpdminaaGreatDoor
open Go.RowKit Go.Lib Go.Proofs.YthhnhbpmpdminaaGreatDoorW.PrintWords PDimacsPrint
set_option maxRecDepth 4096

theorem one_b {s : ByteArray} {i : Nat} {b : UInt8} (h : s.data.toList[i]? = some b) : (s.extract i (i + 1)).data.toList = [b] := by
  have hl := (List.getElem?_eq_some_iff.1 h).1
  rw [Lib.extract_data, List.drop_eq_getElem_cons hl, (List.getElem?_eq_some_iff.1 h).2, Nat.add_sub_cancel_left]
  rfl
theorem drop_b {l : List UInt8} {i : Nat} {b : UInt8} (h : l[i]? = some b) : l.drop i = b :: l.drop (i + 1) := by
  have hl := (List.getElem?_eq_some_iff.1 h).1
  rw [List.drop_eq_getElem_cons hl, (List.getElem?_eq_some_iff.1 h).2]
def selN (n : Int) (i : Nat) : Nat := if bits .and .i64 (wrap64 (n + (i : Int))) 3 = 0 then 0 else if bits .and .i64 (wrap64 (n + (i : Int))) 3 = 1 then 1 else 2
theorem step_inv {sel : Nat → Nat} {s X : ByteArray} {Y r F : List UInt8} {b : UInt8} {h h' : Bool} {i : Nat} (hI : s.data.toList ++ bl sel h i (b :: r) = F) (hX : X.data.toList = Y) (hb : bl sel h i (b :: r) = Y ++ bl sel h' (i + 1) r) : (s ++ X).data.toList ++ bl sel h' (i + 1) r = F := by
  rw [app_data, hX, List.append_assoc, ← hb]; exact hI
theorem step_size {s X : ByteArray} {i : Nat} (hs : s.size ≤ 9 + 11 * i) (hX : X.size ≤ 11) : (s ++ X).size ≤ 9 + 11 * (i + 1) := by
  rw [ByteArray.size_append]; omega
theorem bl_keep (sel : Nat → Nat) (h : Bool) (i : Nat) (b : UInt8) (r : List UInt8) (hc : (b ≠ 10 ∧ b ≠ 32) ∨ (h = true ∧ b = 32)) : bl sel h i (b :: r) = [b] ++ bl sel h (i + 1) r := by
  show (if (b ≠ 10 ∧ b ≠ 32) ∨ (h = true ∧ b = 32) then b :: bl sel h (i + 1) r else _) = _
  rw [if_pos hc]; rfl
theorem bl_two (sel : Nat → Nat) (i : Nat) (r : List UInt8) : bl sel true i (10 :: r) = [10, 32, 99, 32, 116, 119, 111, 10] ++ bl sel false (i + 1) r := by
  show (if ((10 : UInt8) ≠ 10 ∧ (10 : UInt8) ≠ 32) ∨ (true = true ∧ (10 : UInt8) = 32) then _ else if true = true then [10, 32, 99, 32, 116, 119, 111, 10] ++ bl sel false (i + 1) r else _) = _
  rw [if_neg (by decide), if_pos rfl]
theorem sel_0 {n : Int} {i : Nat} (h : bits .and .i64 (wrap64 (n + (i : Int))) 3 = 0) : sepS (selN n i) = [10] := by unfold selN; rw [if_pos h]; rfl
theorem sel_1 {n : Int} {i : Nat} (h0 : ¬ bits .and .i64 (wrap64 (n + (i : Int))) 3 = 0) (h : bits .and .i64 (wrap64 (n + (i : Int))) 3 = 1) : sepS (selN n i) = [10, 32, 32, 10, 99, 32, 48, 32, 48, 10, 32] := by unfold selN; rw [if_neg h0, if_pos h]; rfl
theorem sel_2 {n : Int} {i : Nat} (h0 : ¬ bits .and .i64 (wrap64 (n + (i : Int))) 3 = 0) (h : ¬ bits .and .i64 (wrap64 (n + (i : Int))) 3 = 1) : sepS (selN n i) = [32, 32, 32] := by unfold selN; rw [if_neg h0, if_neg h]; rfl
theorem blank_back (sel : Nat → Nat) (l : List (List Int)) (s : ByteArray) (w : World) (hok : okL l) (hb : bulk l ≤ 3000) (hs : s.data.toList = blT sel (prT l)) (hz : s.size ≤ 65536) (hm : ML w) : Calls Tryz.prog 13 #[.string s] w fun e w' => ∃ v, e = .returned (.tuple #[v, .nilIface]) ∧ Seen w' l v ∧ Below w.heap.size w w' := by
  have hll : l.length ≤ 3000 := by unfold bulk at hb; omega
  have hsz := Lib.size_eq s
  obtain ⟨st, h1, h2⟩ := parse_blank sel l hok (by omega) (by rw [← hs]; omega)
  refine (Parse_any s w (by omega) hm).mono fun e w' h => ?_
  rw [hs, h1] at h
  obtain ⟨g, vc, vo, hs, rfl, hP, hB⟩ := h
  have hC := PI_C hP
  rw [h2] at hC
  exact ⟨vc, rfl, ⟨hC⟩, hB⟩
set_option maxHeartbeats 4000000 in
theorem lawDBlanks (l : List (List Int)) (v : Value) (n : Int) (w : World) (hS : Seen w l v) (hl : l.length ≤ 140737488355328) (hcs : ∀ c ∈ l, c.length ≤ 140737488355328) (hE : EV w) (hp : Ab.PW w) (hm : ML w) (ht : TP w) : Calls Tryz.prog 6 #[v, .int .i64 n] w fun e w' => e = .returned (.bool true) ∧ Below w.heap.size w w' := by
  have HE := Aside0.mk hE
  have HM := Aside0.mk hm
  have HP := Aside0.mk hp
  have HT := Aside0.mk ht
  have HS := Aside0.mk hS
  have HL := Aside0.mk hcs
  clear hE hm hp ht hS hcs
  go_enter Tryz.func6, Tryz.ntmps6
  go_wp2_with fail
  refine (Ab.known19 HE.out HP.out).mono ?_
  rintro e w1 ⟨rfl, hB⟩
  have HB1 := Aside0.mk hB
  clear hB
  go_wp2_with fail
  refine (size_any l v _ (HS.out.up HB1.out) hl HL.out 300 (by omega)).mono ?_
  rintro e w2 ⟨r, rfl, h1, h2, hB⟩
  have HB2 := Aside0.mk (HB1.out.trans (hB.mono HB1.out.size))
  clear hB
  by_cases hb : 300 < bulk l
  · have h3 : (300 : Int) < r := h2 hb
    clear h1 h2
    go_wp2_with fail
    go_returns
    exact ⟨rfl, HB2.out⟩
  · have hb2 : bulk l ≤ 3000 := by omega
    have h3 : ¬ (300 : Int) < r := by have := h1 (by omega); omega
    clear h1 h2 hb
    go_wp2_with fail
    refine (print_seen l v _ (HS.out.up HB2.out) hb2 (HT.out.up HB2.out)).mono ?_
    rintro e w4 ⟨t, q, rfl, ht, hB⟩
    have HB4 := Aside0.mk (HB2.out.trans (hB.mono HB2.out.size))
    clear hB
    rcases ht with ⟨hok, rfl, rfl⟩ | ⟨hbad, rfl, rfl⟩
    · have HOK := Aside0.mk hok
      clear hok
      obtain ⟨T, hT⟩ : ∃ T, T = BA (prT l) := ⟨_, rfl⟩
      have hTd : T.data.toList = prT l := by rw [hT]; simp [BA]
      rw [← hT]
      have HTT := Aside0.mk hTd
      clear hT hTd
      by_cases h4 : 4000 < T.size
      · have h4' : (4000 : Int) < (T.size : Int) := by omega
        go_wp2_with fail
        go_returns
        exact ⟨rfl, HB4.out⟩
      · have h4' : ¬ (4000 : Int) < (T.size : Int) := by omega
        go_wp2_with fail
        go_loopw [7, 8, 9] (fun v7 v8 v9 wq => ∃ (i : Nat) (h : Bool) (s : ByteArray), i ≤ T.size ∧ v9 = .int .i64 (i : Int) ∧ v8 = .bool h ∧ v7 = .string s ∧ s.size ≤ 9 + 11 * i ∧ Aside0 (s.data.toList ++ bl (selN n) h i (T.data.toList.drop i) = blT (selN n) (prT l)) ∧ wq = w4) (fun _ _ v9 _ => T.size - (intOf v9).toNat)
        case atStart => exact ⟨0, true, _, by omega, rfl, rfl, rfl, by decide, ⟨by rw [HTT.out, List.drop_zero]; rfl⟩, rfl⟩
        case round =>
          obtain ⟨i, h, s, hi, rfl, rfl, rfl, hsz, AI, rfl⟩ := hrel
          have hTs := Lib.size_eq T
          by_cases hlt : i < T.size
          · have hlt' : (i : Int) < (T.size : Int) := by omega
            have hby := byte_at T i hlt
            obtain ⟨b, hb⟩ : ∃ b, b = T[i]'hlt := ⟨_, rfl⟩
            have hdrop := drop_b hby
            rw [hdrop, ← hb] at AI
            have c2 : s.size + 1 ≤ 9223372036854775807 := by omega
            have c3 : s.size + 3 ≤ 9223372036854775807 := by omega
            have c8 : s.size + 8 ≤ 9223372036854775807 := by omega
            have c11 : s.size + 11 ≤ 9223372036854775807 := by omega
            clear hdrop hTs
            have hone := one_b hby
            rw [← hb] at hone
            have hosz : (T.extract i (i + 1)).size ≤ 11 := by rw [Lib.size_eq, hone]; simp
            have HONE := Aside0.mk hone
            clear hone hby
            by_cases k10 : b = 10
            · have hv : ((T[i]'hlt).toNat : Int) = 10 := by rw [← hb, k10]; rfl
              cases h with
              | true =>
                have hbs := bl_two (selN n) i (T.data.toList.drop (i + 1))
                rw [← k10] at hbs
                rw [k10] at hbs
                have AI2 : Aside0 (s.data.toList ++ bl (selN n) true i (10 :: T.data.toList.drop (i + 1)) = blT (selN n) (prT l)) := ⟨by rw [← k10]; exact AI.out⟩
                have HBS := Aside0.mk hbs
                clear hbs
                go_wp2_with fail
                exact ⟨⟨i + 1, false, _, by omega, by simp, rfl, rfl, step_size hsz (by decide), ⟨step_inv AI2.out rfl HBS.out⟩, trivial⟩, by simp [intOf]; omega⟩
              | false =>
                have hbs := bl_sep (selN n) b (T.data.toList.drop (i + 1)) i (.inr k10)
                by_cases q0 : bits .and .i64 (wrap64 (n + (i : Int))) 3 = 0
                · rw [sel_0 q0] at hbs
                  have HBS := Aside0.mk hbs
                  clear hbs
                  go_wp2_with fail
                  exact ⟨⟨i + 1, false, _, by omega, by simp, rfl, rfl, step_size hsz (by decide), ⟨step_inv AI.out rfl HBS.out⟩, trivial⟩, by simp [intOf]; omega⟩
                · by_cases q1 : bits .and .i64 (wrap64 (n + (i : Int))) 3 = 1
                  · rw [sel_1 q0 q1] at hbs
                    have HBS := Aside0.mk hbs
                    clear hbs
                    go_wp2_with fail
                    exact ⟨⟨i + 1, false, _, by omega, by simp, rfl, rfl, step_size hsz (by decide), ⟨step_inv AI.out rfl HBS.out⟩, trivial⟩, by simp [intOf]; omega⟩
                  · rw [sel_2 q0 q1] at hbs
                    have HBS := Aside0.mk hbs
                    clear hbs
                    go_wp2_with fail
                    exact ⟨⟨i + 1, false, _, by omega, by simp, rfl, rfl, step_size hsz (by decide), ⟨step_inv AI.out rfl HBS.out⟩, trivial⟩, by simp [intOf]; omega⟩
            · by_cases k32 : b = 32
              · have hv : ((T[i]'hlt).toNat : Int) = 32 := by rw [← hb, k32]; rfl
                cases h with
                | true =>
                  go_wp2_with fail
                  exact ⟨⟨i + 1, true, _, by omega, by simp, rfl, rfl, step_size hsz hosz, ⟨step_inv AI.out HONE.out (bl_keep _ _ _ _ _ (.inr ⟨rfl, k32⟩))⟩, trivial⟩, by simp [intOf]; omega⟩
                | false =>
                  have hbs := bl_sep (selN n) b (T.data.toList.drop (i + 1)) i (.inl k32)
                  by_cases q0 : bits .and .i64 (wrap64 (n + (i : Int))) 3 = 0
                  · rw [sel_0 q0] at hbs
                    have HBS := Aside0.mk hbs
                    clear hbs
                    go_wp2_with fail
                    exact ⟨⟨i + 1, false, _, by omega, by simp, rfl, rfl, step_size hsz (by decide), ⟨step_inv AI.out rfl HBS.out⟩, trivial⟩, by simp [intOf]; omega⟩
                  · by_cases q1 : bits .and .i64 (wrap64 (n + (i : Int))) 3 = 1
                    · rw [sel_1 q0 q1] at hbs
                      have HBS := Aside0.mk hbs
                      clear hbs
                      go_wp2_with fail
                      exact ⟨⟨i + 1, false, _, by omega, by simp, rfl, rfl, step_size hsz (by decide), ⟨step_inv AI.out rfl HBS.out⟩, trivial⟩, by simp [intOf]; omega⟩
                    · rw [sel_2 q0 q1] at hbs
                      have HBS := Aside0.mk hbs
                      clear hbs
                      go_wp2_with fail
                      exact ⟨⟨i + 1, false, _, by omega, by simp, rfl, rfl, step_size hsz (by decide), ⟨step_inv AI.out rfl HBS.out⟩, trivial⟩, by simp [intOf]; omega⟩
              · have hv1 : ¬ ((T[i]'hlt).toNat : Int) = 10 := by
                  rw [← hb]; intro q; exact k10 (UInt8.toNat_inj.1 (by have : b.toNat = 10 := by omega
                                                                       rw [this]; rfl))
                have hv2 : ¬ ((T[i]'hlt).toNat : Int) = 32 := by
                  rw [← hb]; intro q; exact k32 (UInt8.toNat_inj.1 (by have : b.toNat = 32 := by omega
                                                                       rw [this]; rfl))
                go_wp2_with fail
                exact ⟨⟨i + 1, h, _, by omega, by simp, rfl, rfl, step_size hsz hosz, ⟨step_inv AI.out HONE.out (bl_keep _ _ _ _ _ (.inl ⟨k10, k32⟩))⟩, trivial⟩, by simp [intOf]; omega⟩
          · have hie : i = T.size := by omega
            subst hie
            have hfin : s.data.toList = blT (selN n) (prT l) := by
              have := AI.out
              rw [List.drop_eq_nil_of_le (by omega)] at this
              simpa [bl] using this
            have HF := Aside0.mk hfin
            clear hfin AI hTs
            go_wp2_with fail
            refine (blank_back (selN n) l s _ HOK.out hb2 HF.out (by omega) (HM.out.up HB4.out)).mono ?_
            rintro e w7 ⟨v7, rfl, hs, hB⟩
            have HB7 := Aside0.mk (HB4.out.trans (hB.mono HB4.out.size))
            have HS7 := Aside0.mk hs
            clear hB hs
            go_wp2_with fail
            refine (lists_any l _ _ _ HS7.out (HS.out.up HB7.out)).mono ?_
            rintro e w8 ⟨rfl, hB⟩
            have HB8 := Aside0.mk (HB7.out.trans (hB.mono HB7.out.size))
            clear hB
            go_wp2_with fail
            go_returns
            exact ⟨rfl, HB8.out⟩
    · clear hbad
      go_wp2_with fail
      go_returns
      exact ⟨rfl, HB4.out⟩
end Go.Proofs.YthhnhbpmpdminaaGreatDoor
/-
An argument that is a list of lists of numbers, opened; the wrap that keeps the world's shape and the arguments' reach. Conditions: none.
-/
namespace Go.Proofs.YthhnhbpmpdminaaGreatDoor
set_option maxRecDepth 4096
open Go.ChangeShapes Go.WideShapes Go.RowKit Go.Proofs.YthhnhbpmpdminaaGreatDoorW.PrintWords

theorem weights_all {H : Type} {P : Program} {e : TypeId} {n : Nat} : ∀ {ds : List (DataW H)} {d : DataW H}, d ∈ ds → n ∈ d.weights P e → n ∈ DataW.weightsAll P e ds
  | d0 :: ds, d, h, hn => by
    rcases List.mem_cons.1 h with rfl | h
    · simp only [DataW.weightsAll, List.mem_append]; exact .inl hn
    · simp only [DataW.weightsAll, List.mem_append]; exact .inr (weights_all h hn)
theorem bytes_ints : Tryz.prog.bytesOf 61 = 24 := by kernel_rfl
theorem bytes_int : Tryz.prog.bytesOf 3 = 8 := by kernel_rfl
theorem rows_of {H : Type} {enc : TypeId × Value → H} {w : World} {fuel : Nat} {cs : List Value} {x : DataW H × List MemPlace} (h : DataW.trod enc Tryz.prog w 0 (fun _ => true) true fuel 23 cs = some x) (hw : ∀ n ∈ x.1.weights Tryz.prog 23, n ≤ reachBytes) :
    ∃ (l : List (List Int)) (A : Option Addr) (c : Nat), cs = [.slice A l.length c] ∧ Seen w l (.slice A l.length c) ∧ l.length ≤ 140737488355328 ∧ ∀ y ∈ l, y.length ≤ 140737488355328 := by
  have hrb : reachBytes ≤ 140737488355328 := by unfold reachBytes; omega
  rcases Go.Deep.open_int_rows (k := .i64) Tryz.underlying23 Tryz.underlying61 Tryz.underlying3 (by kernel_rfl) (by kernel_rfl) h with ⟨rfl, rfl⟩ | ⟨a, len, cap, A, L, C, Z, rfl, _, hlc, hcm, rfl, hr⟩
  · exact ⟨[], none, 0, rfl, ⟨none, 0, rfl, Nat.le_refl _, Kd.C_nil _ _⟩, by simp, fun y hy => by cases hy⟩
  · have hll : ((List.range len).map fun r => (Z r).take (L r)).length = len := by simp
    simp only [DataW.weights, Tryz.underlying23, bytes_ints] at hw
    have h1 := hw _ (List.mem_cons_self ..)
    have hC : Kd.C (Kd.slice 3 (Kd.int .i64)) w (some a) len ((List.range len).map fun r => (Z r).take (L r)) := by
      refine ⟨hll, by unfold maxLen at hcm; omega, fun _ => ⟨a, rfl, fun j p hj => ?_⟩⟩
      have hjl : j < len := by have := (List.getElem?_eq_some_iff.1 hj).1; omega
      obtain ⟨g1, g2, g3, g4, _, g6, g7⟩ := hr j (by omega)
      have hp : p = (Z j).take (L j) := by
        rw [List.getElem?_map, List.getElem?_range hjl] at hj
        exact (Option.some.inj hj).symm
      have hpl : p.length = L j := by rw [hp, List.length_take]; omega
      refine ⟨[.slice (A j) (L j) (C j)], rfl, ⟨A j, C j, by rw [hpl], by omega, ⟨rfl, by unfold maxLen at g3; omega, fun h0 => ?_⟩⟩, fun i u hu => ?_⟩
      · cases hA : A j with
        | none => have := g6 hA; omega
        | some a' =>
          obtain ⟨_, g8⟩ := g7 a' hA
          refine ⟨a', rfl, fun i q hi => ⟨[.int .i64 q], rfl, rfl, fun m u hu => ?_⟩⟩
          have hil := (List.getElem?_eq_some_iff.1 hi).1
          have hm : m = 0 := by have := (List.getElem?_eq_some_iff.1 hu).1; simpa using this
          subst hm
          have hu : u = .int .i64 q := by simpa using hu.symm
          have h9 := g8 i (by omega)
          have hz : (Z j).getD i 0 = q := by
            rw [hp, List.getElem?_take] at hi
            split at hi
            · simp [List.getD, hi]
            · cases hi
          rw [hz] at h9
          rw [hu]
          show w.cell? (a'.add (i * 1 + 0)) = _
          rw [Nat.mul_one, Nat.add_zero]; exact h9
      · have hm : i = 0 := by have := (List.getElem?_eq_some_iff.1 hu).1; simpa using this
        subst hm
        have hu : u = .slice (A j) (L j) (C j) := by simpa using hu.symm
        rw [hu]
        show w.cell? (a.add (j * 1 + 0)) = _
        rw [Nat.mul_one, Nat.add_zero]; exact g1
    refine ⟨(List.range len).map fun r => (Z r).take (L r), some a, cap, by rw [hll], ⟨some a, cap, rfl, by omega, by rw [hll]; exact hC⟩, ?_, fun y hy => ?_⟩
    · rw [hll]
      simp only [List.length_map, List.length_range] at h1
      omega
    · obtain ⟨j, hj, rfl⟩ := List.mem_map.1 hy
      have hj := List.mem_range.1 hj
      obtain ⟨g1, g2, g3, g4, _, g6, g7⟩ := hr j (by omega)
      rw [List.length_take]
      cases hA : A j with
      | none => have := g6 hA; omega
      | some a' =>
        have h2 : (((Z j).take (L j)).length + ((Z j).drop (L j)).length) * 8 ≤ reachBytes := by
          refine hw _ (List.mem_cons_of_mem _ (List.mem_append_left _ (weights_all (d := Go.Deep.intRow .i64 (A j) (L j) (Z j)) (List.mem_map.2 ⟨j, List.mem_range.2 hj, rfl⟩) ?_)))
          rw [hA]
          simp only [Go.Deep.intRow, DataW.weights, Tryz.underlying61, bytes_int, Go.ChangeShapes.lits, List.length_map]
          exact List.mem_cons_self ..
        simp only [List.length_take, List.length_drop] at h2
        omega

theorem returns_and_sized {H : Type} {enc : TypeId × Value → H} {a : Assume} {C : Checked} {os : Os} {f : FuncId} {fn : Func} {s : ChangeSpec} {conds : List PathCond} {apart fresh handsOn again : Bool} {X : World → Array Value → Prop}
    (hX : ∀ (w w' : World) (args : Array Value), w.heap = w'.heap → X w args → X w' args)
    (own : ownKnob C.prog.godebug = none) (started : os.Started) (noInit : C.prog.inits.idxOf? f = none) (hfn : C.prog.funcs[f]? = some fn)
    (witness : ∃ (w : World) (tape : Tape) (i : Input), w.os = os ∧ (w.forCall tape i).Shaped C.prog ∧ i.vars = [] ∧ Input.okWide C.prog (w.forCall tape i) .any w.heap.size f i ∧
      ((s.pre enc C.prog fn conds apart (w.forCall tape i).memory i.args ∧ X (w.forCall tape i).memory i.args) ∧ sizedMet enc C.prog fn (OpenSpec.ofChange s) apart (w.forCall tape i).memory i.args) ∧ a.holds C.prog (lone (Frame.enter C.prog f i.args .normal) [] (w.forCall tape i)))
    (contract : ∀ (W : World) (base : Nat) (args : Array Value) (ds gs : List (DataW H)) (before : List MemPlace),
      (∀ (j : Nat) t v, fn.params[j]? = some t → args[j]? = some v → Value.okWide C.prog W .any base t v) →
      DataW.Whole enc C.prog fn.params.toList s.vars apart W args.toList ds gs before →
      (DataW.weightsEach C.prog (fn.params.toList ++ s.plain.varTypes C.prog) (ds ++ gs)).all (· ≤ reachBytes) = true →
      X W args → W.ShapedOpen C.prog →
      Calls C.prog f args W fun e W' => ∃ v, e = .returned v ∧ s.post enc C.prog fn apart fresh handsOn again W args v W') :
    ReturnsInHanded a C os f .any (fun w args => (s.pre enc C.prog fn conds apart w args ∧ X w args) ∧ sizedMet enc C.prog fn (OpenSpec.ofChange s) apart w args) (s.post enc C.prog fn apart fresh handsOn again) := by
  refine returnsInHanded_of_calls own started noInit witness ?_
  intro w tape i _ hsh _ hok hpre hholds
  obtain ⟨_, _, _, fn', hfn', _, _, _, _, hval⟩ := hok
  have e : fn' = fn := Option.some.inj (hfn'.symm.trans hfn)
  subst e
  obtain ⟨⟨⟨ds, gs, before, hw, hc⟩, hx⟩, hz⟩ := hpre
  have hw' := DataW.Whole.of_heap (w' := w.forCall tape i) (by rfl) hw
  refine (contract (w.forCall tape i) w.heap.size i.args ds gs before hval hw' (hz.weights hw) (hX _ _ _ (by rfl) hx) hsh).mono fun e W' ⟨v, he, hp⟩ => ?_
  subst he
  exact ChangeSpec.post_blind hp
end Go.Proofs.YthhnhbpmpdminaaGreatDoor
