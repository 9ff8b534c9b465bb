/-
Several texts as one: Gar Plb.
-/
import Derived.Test.YthhnhbpmpdminaaGreatDoorXC
import Derived.Test.YthhnhbpmpdminaaGreatDoorXH
import Derived.Test.YthhnhbpmpdminaaGreatDoorXE
import Derived.Test.YthhnhbpmpdminaaGreatDoorPra
import Derived.Handy
import Derived.Laws.Rows
/-
term: Arity, sort, numbered, told. Conditions: stated with each.
-/
namespace Go.Proofs.YthhnhbpmpdminaaGreatDoor
set_option maxRecDepth 4096
set_option maxHeartbeats 8000000
set_option linter.unusedSimpArgs false
set_option linter.unusedVariables false
set_option linter.unnecessarySimpa false
open Go.RowKit Go.Proofs.YthhnhbpmpdminaaGreatDoorW.PrintWords PReadTwice
theorem Arity_any (n : Int) (W : World) : Calls Tryz.prog 140 #[.int .i64 n] W fun e W' => e = .returned (.int .i64 (arityV n)) ∧ W' = W := by
  obtain ⟨R, hR⟩ : ∃ R, arityV n = R := ⟨_, rfl⟩
  rw [hR]
  have HR := Aside0.mk hR
  clear hR
  go_enter Tryz.func140, Tryz.ntmps140
  go_wp2_with fail
  all_goals (
    go_returns
    refine ⟨?_, rfl⟩
    have hR := HR.out
    try simp only [beq_iff_eq, beq_eq_false_iff_ne, bne_iff_ne, bne_eq_false_iff_eq, ne_eq, Bool.not_eq_true, Bool.not_eq_false, decide_eq_true_eq, decide_eq_false_iff_not, Bool.and_eq_true, Bool.or_eq_true, Bool.and_eq_false_iff, Bool.or_eq_false_iff, Bool.not_eq_eq_eq_not, Bool.not_true, Bool.not_false, Int.not_lt, Int.not_le, and_true, true_and, or_false, false_or] at *
    unfold arityV at hR
    repeat' (split at hR)
    all_goals first | (subst hR; rfl) | (exfalso; omega))
theorem tsort_any (n : Int) (W : World) : Calls Tryz.prog 142 #[.int .i64 n] W fun e W' => e = .returned (.bool (isSort n)) ∧ W' = W := by
  obtain ⟨R, hR⟩ : ∃ R, isSort n = R := ⟨_, rfl⟩
  rw [hR]
  have HR := Aside0.mk hR
  clear hR
  go_enter Tryz.func142, Tryz.ntmps142
  go_wp2_with fail
  all_goals (
    go_returns
    refine ⟨?_, rfl⟩
    have hR := HR.out
    subst hR
    unfold isSort
    congr 2
    first | with_reducible rfl | (rw [Bool.eq_iff_iff]; simp; done) | (rw [Bool.eq_iff_iff]; simp; omega) | (simp; omega))
/-- What an operator's look at its operands told. -/
def OptP (o : Option Int) (r : Option (Int × Bool)) : Prop := ∃ n : Int, r = some (n, o.isSome) ∧ ∀ k, o = some k → n = k
theorem OptP_none {n : Int} {b : Bool} (h : b = false) : OptP none (some (n, b)) := ⟨n, by rw [h]; rfl, fun _ h => by cases h⟩
theorem OptP_some {n k : Int} {b : Bool} (h : b = true) (hk : n = k) : OptP (some k) (some (n, b)) := ⟨n, by rw [h]; rfl, fun _ h => by cases h; exact hk⟩
theorem OptP_if {c : Prop} [Decidable c] {n k : Int} {b : Bool} (h : b = decide c) (hk : c → n = k) : OptP (if c then some k else none) (some (n, b)) := by
  by_cases hc : c
  · rw [if_pos hc]; exact OptP_some (by rw [h]; exact decide_eq_true hc) (hk hc)
  · rw [if_neg hc]; exact OptP_none (by rw [h]; exact decide_eq_false hc)
theorem mul_small {x p : Int} (hx : 0 ≤ x) (hx2 : x ≤ 128) (hp : 1 ≤ p) : wrap64 (x * min p 129) = x * min p 129 := by
  have h1 : 0 ≤ min p 129 := by omega
  have h2 : min p 129 ≤ 129 := by omega
  have h3 : 0 ≤ x * min p 129 := Int.mul_nonneg hx h1
  have h4 : x * min p 129 ≤ 128 * 129 := Int.mul_le_mul hx2 h2 h1 (by omega)
  unfold wrap64; omega
theorem numbered_f (op p q x : Int) (hx : 0 ≤ x) (hx2 : x ≤ 128) : OptP (numbV op p q x) (term_numbered.f 3 op p q x) := by
  unfold term_numbered.f term_numbered.j0 numbV
  by_cases h1 : op = 39
  · simp only [if_pos h1]
    by_cases a : q ≥ 0
    · by_cases b : p ≥ q
      · rw [if_pos a, if_pos b]
        exact OptP_if (by rw [Bool.eq_iff_iff]; simp; omega) (fun _ => by unfold wrap64; omega)
      · rw [if_pos a, if_neg b, if_neg (by omega)]; exact OptP_none rfl
    · rw [if_neg a, if_neg (by omega)]; exact OptP_none rfl
  · rw [if_neg h1, if_neg h1]
    have r0 : ∀ b : Bool, (b = true ↔ (op = 42 ∨ op = 43)) → OptP (if op = 42 ∨ op = 43 then if 0 ≤ p ∧ q = 0 then some x else none else if op = 44 then if 1 ≤ p ∧ q = 0 then some (x * min p 129) else none else if 0 ≤ p ∧ q = 0 then some (x + min p 128) else none)
        (if b = true then (if p ≥ 0 then (some (x, (q == 0))) else (some (x, false))) else (if op = 44 then (if p ≥ 1 then (some (wrap64 (x * (mn p 129)), (q == 0))) else (some (wrap64 (x * (mn p 129)), false))) else (if p ≥ 0 then (some (wrap64 (x + (mn (mx p 0) 128)), (q == 0))) else (some (wrap64 (x + (mn (mx p 0) 128)), false))))) := by
      intro b hb
      by_cases h2 : op = 42 ∨ op = 43
      · rw [if_pos h2, if_pos (hb.2 h2)]
        by_cases a : p ≥ 0
        · rw [if_pos a]; exact OptP_if (by rw [Bool.eq_iff_iff]; simp; omega) (fun _ => rfl)
        · rw [if_neg a, if_neg (by omega)]; exact OptP_none rfl
      · rw [if_neg h2, if_neg (fun q => h2 (hb.1 q))]
        by_cases h3 : op = 44
        · rw [if_pos h3, if_pos h3]
          by_cases a : p ≥ 1
          · rw [if_pos a]; exact OptP_if (by rw [Bool.eq_iff_iff]; simp; omega) (fun _ => by
              have : mn p 129 = min p 129 := by unfold mn; omega
              rw [this]; exact mul_small hx hx2 a)
          · rw [if_neg a, if_neg (by omega)]; exact OptP_none rfl
        · rw [if_neg h3, if_neg h3]
          by_cases a : p ≥ 0
          · rw [if_pos a]; exact OptP_if (by rw [Bool.eq_iff_iff]; simp; omega) (fun _ => by
              have : mn (mx p 0) 128 = min p 128 := by unfold mn mx; omega
              rw [this]; unfold wrap64; omega)
          · rw [if_neg a, if_neg (by omega)]; exact OptP_none rfl
    by_cases h4 : op = 42
    · rw [if_pos h4]; exact r0 _ (by simp [h4])
    · rw [if_neg h4]; exact r0 _ (by simp [h4])
theorem told_f (op p q : Int) (l : List Int) (h1 : 1 ≤ l.length) (h3 : l.length ≤ 3) (h9 : op = 9 → 2 ≤ l.length) (hr : ∀ s ∈ l, 0 ≤ s ∧ s ≤ 128) : OptP (toldV op p q l) (term_told.f 5 op p q l) := by
  have w1 : wrap64 ((l.length : Int) - 1) = ((l.length - 1 : Nat) : Int) := by unfold wrap64; omega
  obtain ⟨x, hx⟩ : ∃ x, x = l.getD 0 0 := ⟨_, rfl⟩
  obtain ⟨z, hz⟩ : ∃ z, z = l.getD (l.length - 1) 0 := ⟨_, rfl⟩
  obtain ⟨y, hy⟩ : ∃ y, y = l.getD 1 0 := ⟨_, rfl⟩
  have rx : 0 ≤ x ∧ x ≤ 128 := by
    rw [hx, List.getD_eq_getElem?_getD, List.getElem?_eq_getElem (by omega)]
    exact hr _ (List.getElem_mem _)
  have rz : 0 ≤ z ∧ z ≤ 128 := by
    rw [hz, List.getD_eq_getElem?_getD, List.getElem?_eq_getElem (by omega)]
    exact hr _ (List.getElem_mem _)
  have e0 : rd l 0 = x := by rw [hx]; rfl
  have e1 : rd l 1 = y := by rw [hy]; rfl
  have en : rd l ((l.length - 1 : Nat) : Int) = z := by rw [hz]; unfold rd; rw [Int.toNat_natCast]
  have key : ∀ b : Bool, (b = true ↔ (p = 0 ∧ q = 0)) → OptP (toldV op p q l) (term_told.j0 5 op p q l b) := by
    intro b hb
    unfold term_told.j0 toldV
    simp only [w1, e0, e1, en, ← hx, ← hz, ← hy]
    rw [if_pos (show (0 : Int) < (l.length : Int) by omega), if_pos (show (0 : Int) ≤ ((l.length - 1 : Nat) : Int) by omega), if_pos (show ((l.length - 1 : Nat) : Int) < (l.length : Int) by omega)]
    by_cases c1 : op ≤ 7
    · rw [if_pos c1, if_pos c1]
      by_cases d1 : b = true
      · rw [if_pos d1]
        by_cases d2 : x = 0
        · rw [if_pos d2]; exact OptP_if (by rw [Bool.eq_iff_iff]; simp [hb.1 d1, d2]) (fun _ => rfl)
        · rw [if_neg d2, if_neg (fun h => d2 h.2.1)]; exact OptP_none rfl
      · rw [if_neg d1, if_neg (fun h => d1 (hb.2 h.1))]; exact OptP_none rfl
    · rw [if_neg c1, if_neg c1]
      by_cases c2 : op = 8
      · rw [if_pos c2, if_pos c2]
        by_cases d1 : b = true
        · rw [if_pos d1]; exact OptP_if (by rw [Bool.eq_iff_iff]; simp [hb.1 d1]) (fun _ => rfl)
        · rw [if_neg d1, if_neg (fun h => d1 (hb.2 h.1))]; exact OptP_none rfl
      · rw [if_neg c2, if_neg c2]
        by_cases c3 : op = 9
        · rw [if_pos c3, if_pos c3]
          by_cases d1 : b = true
          · rw [if_pos d1]
            by_cases d2 : x = 0
            · rw [if_pos d2, if_pos (show (1 : Int) < (l.length : Int) by have := h9 c3; omega)]; exact OptP_if (by rw [Bool.eq_iff_iff]; simp [hb.1 d1, d2]) (fun _ => rfl)
            · rw [if_neg d2, if_neg (by omega)]; exact OptP_none rfl
          · rw [if_neg d1, if_neg (fun h => d1 (hb.2 h.1))]; exact OptP_none rfl
        · rw [if_neg c3, if_neg c3]
          by_cases c4 : op = 38
          · rw [if_pos c4, if_pos c4]
            by_cases d1 : b = true
            · rw [if_pos d1]
              by_cases d2 : x > 0
              · rw [if_pos d2]; exact OptP_if (by have := hb.1 d1; rw [Bool.eq_iff_iff]; simp only [decide_eq_true_eq]; omega) (fun _ => by unfold wrap64; omega)
              · rw [if_neg d2, if_neg (by omega)]; exact OptP_none rfl
            · rw [if_neg d1, if_neg (fun h => d1 (hb.2 h.1))]; exact OptP_none rfl
          · rw [if_neg c4, if_neg c4]
            by_cases c5 : op ≥ 39
            · rw [if_pos c5, if_pos c5]
              obtain ⟨n, hn, hk⟩ := numbered_f op p q x rx.1 rx.2
              have hn' : term_numbered.f 4 op p q x = some (n, (numbV op p q x).isSome) := term_numbered.mono op p q x 3 _ hn
              rw [hn']
              simp only [Option.bind_some]
              cases hv : numbV op p q x with
              | none => simp only [Option.isSome_none, Bool.false_eq_true, if_false, ite_self]; exact OptP_none rfl
              | some k =>
                simp only [Option.isSome_some, if_true]
                exact OptP_if rfl (fun _ => hk k hv)
            · rw [if_neg c5, if_neg c5]
              have tl : ∀ (v : Int), OptP (if (p = 0 ∧ q = 0) ∧ x = z ∧ 0 < x then some v else none) (if b = true then (if x = z then (some (v, decide (x > 0))) else (some (v, false))) else (some (v, false))) := by
                intro v
                by_cases d1 : b = true
                · rw [if_pos d1]
                  by_cases d2 : x = z
                  · rw [if_pos d2]; exact OptP_if (by rw [Bool.eq_iff_iff]; simp [hb.1 d1, d2]) (fun _ => rfl)
                  · rw [if_neg d2, if_neg (by omega)]; exact OptP_none rfl
                · rw [if_neg d1, if_neg (fun h => d1 (hb.2 h.1))]; exact OptP_none rfl
              by_cases c6 : op = 37
              · rw [if_pos c6, if_pos c6]; exact tl 1
              · rw [if_neg c6, if_neg c6]
                by_cases c7 : op ≥ 29
                · rw [if_pos c7, if_pos c7]; exact tl 0
                · rw [if_neg c7, if_neg c7]; exact tl x
  unfold term_told.f
  by_cases h : p = 0
  · rw [if_pos h]; exact key _ (by simp [h])
  · rw [if_neg h]; exact key _ (by simp [h])
theorem ints_C {w : World} {B : Nat} {u : Value} {x : List Int} (h : w.ownsRow B 3 1 u x.length (x.map (Value.int .i64))) : ∃ A c, u = .slice A x.length c ∧ x.length ≤ c ∧ Kd.C (Kd.int .i64) w A x.length x := by
  have hR : Reps (fun (p : Int) cs => cs = [Value.int .i64 p]) 1 x (x.map (Value.int .i64)) := by
    refine ⟨by simp, fun j p hj => ?_⟩
    rw [Nat.mul_one]
    have hl := (List.getElem?_eq_some_iff.1 hj).1
    have h1 : (x.map (Value.int .i64))[j]? = some (.int .i64 p) := by simp [hj]
    have hl2 : j < (x.map (Value.int .i64)).length := by simpa using hl
    rw [List.drop_eq_getElem_cons hl2, (List.getElem?_eq_some_iff.1 h1).2]
    rfl
  obtain ⟨A, c, rfl, hr⟩ := own_reads_row h hR rfl
  refine ⟨A, c, rfl, ?_, hr⟩
  rcases h.2 with ⟨q, q2⟩ | ⟨g, cap, cur, q, _, _, hc, _⟩
  · rw [q2]; omega
  · cases q; exact hc
theorem told_any (op p q : Int) (l : List Int) (A : Option Addr) (c : Nat) (W : World) (h1 : 1 ≤ l.length) (h3 : l.length ≤ 3) (h9 : op = 9 → 2 ≤ l.length) (hr : ∀ s ∈ l, 0 ≤ s ∧ s ≤ 128)
    (hc : l.length ≤ c) (hC : Kd.C (Kd.int .i64) W A l.length l) :
    Calls Tryz.prog 195 #[.int .i64 op, .int .i64 p, .int .i64 q, .slice A l.length c] W fun e W' => (∃ n : Int, e = .returned (.tuple #[.int .i64 n, .bool (toldV op p q l).isSome]) ∧ ∀ k, toldV op p q l = some k → n = k) ∧ Below W.heap.size W W' := by
  obtain ⟨n, hn, hk⟩ := told_f op p q l h1 h3 h9 hr
  exact (term_told.calls 5 op p q A c l n _ W hC hc hn).mono fun e W' ⟨he, hB⟩ => ⟨⟨n, he, hk⟩, hB⟩
/-- The closure that asks for a sort. -/
theorem notsort_any (n : Int) (W : World) : Calls Tryz.prog 194 #[.int .i64 n] W fun e W' => e = .returned (.bool (!isSort n)) ∧ W' = W := by
  obtain ⟨b, hb⟩ : ∃ b, isSort n = b := ⟨_, rfl⟩
  rw [hb]
  have HB := Aside0.mk hb
  clear hb
  go_enter Tryz.func194, Tryz.ntmps194
  go_wp2_with fail
  refine (tsort_any n _).mono ?_
  rintro e w1 ⟨rfl, rfl⟩
  rw [HB.out]
  cases b
  all_goals (
    go_wp2_with fail
    go_returns
    exact ⟨rfl, rfl⟩)
theorem any_take {l : List Int} {i : Nat} (hi : i < l.length) (h : ((l.take i).any fun s => !isSort s) = false) : ((l.take (i + 1)).any fun s => !isSort s) = !isSort l[i] := by
  rw [List.take_succ_eq_append_getElem hi, List.any_append, h]; simp
theorem IndexFunc_any (l : List Int) (A : Option Addr) (c : Nat) (W : World) (hl : l.length ≤ 1000) (hc : l.length ≤ c) (hC : Kd.C (Kd.int .i64) W A l.length l) :
    Calls Tryz.prog 237 #[.slice A l.length c, .func (.func 194) #[] #[]] W fun e W' => (∃ n : Int, e = .returned (.int .i64 n) ∧ decide (0 ≤ n) = l.any fun s => !isSort s) ∧ W' = W := by
  have HC := Aside0.mk hC
  clear hC
  go_enter Tryz.func237, Tryz.ntmps237
  go_wp2_with fail
  go_loopw [8] (fun v wr => ∃ i : Nat, i ≤ l.length ∧ v = .int .i64 (i : Int) ∧ Aside0 (((l.take i).any fun s => !isSort s) = false) ∧ wr = W) (fun v _ => l.length - (intOf v).toNat)
  case atStart => exact ⟨0, by omega, rfl, ⟨by simp⟩, rfl⟩
  case round =>
    obtain ⟨i, hi, rfl, HA, rfl⟩ := hrel
    by_cases hlt : i < l.length
    · have hlt' : (i : Int) < (l.length : Int) := by omega
      obtain ⟨ad, rfl, c0⟩ := Kd.at_int HC.out (i : Int) (by omega) hlt'
      rw [Int.toNat_natCast] at c0
      have hrd : rd l (i : Int) = l[i] := by unfold rd; rw [Int.toNat_natCast, List.getD_eq_getElem?_getD, List.getElem?_eq_getElem hlt]; rfl
      rw [hrd] at c0
      clear hrd
      go_wp2_with fail
      refine (notsort_any l[i] wr).mono ?_
      rintro e w1 ⟨rfl, rfl⟩
      have HT := Aside0.mk (any_take hlt HA.out)
      obtain ⟨b, hb⟩ : ∃ b, isSort l[i] = b := ⟨_, rfl⟩
      have HB := Aside0.mk hb
      rw [hb]
      clear hb
      cases b
      all_goals (go_wp2_with fail)
      · go_returns
        refine ⟨⟨_, rfl, ?_⟩, rfl⟩
        rw [decide_eq_true (by omega)]
        have h1 := HT.out
        rw [HB.out, Bool.not_false] at h1
        symm
        rw [List.any_eq_true] at h1 ⊢
        obtain ⟨x, hx, hx2⟩ := h1
        exact ⟨x, List.mem_of_mem_take hx, hx2⟩
      · exact ⟨⟨i + 1, by omega, by simp, ⟨by rw [HT.out, HB.out]; rfl⟩, trivial⟩, by simp only [intOf]; omega⟩
    · go_wp2_with fail
      go_returns
      refine ⟨⟨_, rfl, ?_⟩, rfl⟩
      have h1 := HA.out
      rw [List.take_of_length_le (by omega)] at h1
      rw [h1]; rfl
theorem ContainsFunc_any (l : List Int) (A : Option Addr) (c : Nat) (W : World) (hl : l.length ≤ 1000) (hc : l.length ≤ c) (hC : Kd.C (Kd.int .i64) W A l.length l) :
    Calls Tryz.prog 193 #[.slice A l.length c, .func (.func 194) #[] #[]] W fun e W' => e = .returned (.bool (l.any fun s => !isSort s)) ∧ W' = W := by
  obtain ⟨b, hb⟩ : ∃ b, (l.any fun s => !isSort s) = b := ⟨_, rfl⟩
  have HB := Aside0.mk hb
  rw [hb]
  clear hb
  go_enter Tryz.func193, Tryz.ntmps193
  go_wp2_with fail
  refine (IndexFunc_any l A c _ hl hc hC).mono ?_
  rintro e w1 ⟨⟨n, rfl, hn⟩, rfl⟩
  have HN : Aside0 (decide (0 ≤ n) = b) := ⟨by rw [hn, HB.out]⟩
  clear hn
  go_wp2_with fail
  go_returns
  exact ⟨by rw [← HN.out]; rfl, rfl⟩
theorem Sort_any (op p q : Int) (l : List Int) (A : Option Addr) (c : Nat) (W : World) (h3 : l.length ≤ 3) (hc : l.length ≤ c) (hC : Kd.C (Kd.int .i64) W A l.length l) :
    Calls Tryz.prog 143 #[.int .i64 op, .int .i64 p, .int .i64 q, .slice A l.length c] W fun e W' => e = .returned (.tuple #[.int .i64 (sortOf op p q l).1, .int .i64 (sortOf op p q l).2]) ∧ Below W.heap.size W W' := by
  obtain ⟨R1, hR1⟩ : ∃ R, (sortOf op p q l).1 = R := ⟨_, rfl⟩
  obtain ⟨R2, hR2⟩ : ∃ R, (sortOf op p q l).2 = R := ⟨_, rfl⟩
  obtain ⟨ar, har⟩ : ∃ n, arityV op = n := ⟨_, rfl⟩
  obtain ⟨b, hb⟩ : ∃ b, (l.any fun s => !isSort s) = b := ⟨_, rfl⟩
  have HS : Aside0 (sortOf op p q l = (R1, R2)) := ⟨by rw [← hR1, ← hR2]⟩
  rw [hR1, hR2]
  have HA := Aside0.mk har
  have HB := Aside0.mk hb
  clear hR1 hR2 har hb
  have HC := Aside0.mk hC
  clear hC
  have hS : sortOf op p q l = (if ar < 1 then (0, 32) else if (l.length : Int) ≠ ar ∨ b = true then (0, 30) else match toldV op p q l with
    | none => (0, 30)
    | some n => if 128 < n then (0, 31) else (n, 0) : Int × Int) := by unfold sortOf; rw [HA.out, HB.out]; cases toldV op p q l <;> rfl
  rw [HS.out] at hS
  have HS := Aside0.mk hS
  clear hS
  go_enter Tryz.func143, Tryz.ntmps143
  go_wp2_with fail
  refine (Arity_any op _).mono ?_
  rintro e w1 ⟨rfl, rfl⟩
  rw [HA.out]
  by_cases h1 : ar < 1
  · have hS := HS.out
    rw [if_pos h1] at hS
    cases hS
    go_wp2_with fail
    go_returns
    exact ⟨rfl, Below.refl _ _⟩
  · have hS := HS.out
    rw [if_neg h1] at hS
    by_cases h2 : (l.length : Int) = ar
    · go_wp2_with fail
      refine (ContainsFunc_any l A c _ (by omega) hc HC.out).mono ?_
      rintro e w2 ⟨rfl, rfl⟩
      rw [HB.out]
      cases b with
      | true =>
        rw [if_pos (.inr rfl)] at hS
        cases hS
        go_wp2_with fail
        go_returns
        exact ⟨rfl, Below.refl _ _⟩
      | false =>
        rw [if_neg (by simp [h2])] at hS
        go_wp2_with fail
        refine (told_any op p q l A c _ (by omega) h3 (fun h => by have := HA.out; rw [h] at this; simp [arityV] at this; omega) (fun s hs => ?_) hc HC.out).mono ?_
        · have h4 := HB.out
          rw [List.any_eq_false] at h4
          have := h4 s hs
          simp [isSort] at this
          omega
        rintro e w3 ⟨⟨n, rfl, hn⟩, hB⟩
        have HW := Aside0.mk hB
        clear hB
        cases ht : toldV op p q l with
        | none =>
          rw [ht] at hS
          cases hS
          go_wp2_with fail
          go_returns
          exact ⟨rfl, HW.out⟩
        | some k =>
          rw [ht] at hS
          obtain rfl := hn k ht
          have hS : (if 128 < n then (0, 31) else (n, 0) : Int × Int) = (R1, R2) := hS.symm
          clear hn ht
          by_cases h5 : 128 < n
          · rw [if_pos h5] at hS
            cases hS
            go_wp2_with fail
            go_returns
            exact ⟨rfl, HW.out⟩
          · rw [if_neg h5] at hS
            cases hS
            go_wp2_with fail
            go_returns
            exact ⟨rfl, HW.out⟩
    · rw [if_pos (.inl h2)] at hS
      cases hS
      go_wp2_with fail
      go_returns
      exact ⟨rfl, Below.refl _ _⟩
end Go.Proofs.YthhnhbpmpdminaaGreatDoor
/-
More steps of a plan: what is not carried out; and calls. Conditions: none.
-/
namespace Go.Proofs.YthhnhbpmpdminaaGreatDoor
set_option maxRecDepth 4096
set_option maxHeartbeats 8000000
set_option linter.unusedSimpArgs false
set_option linter.unusedVariables false
set_option linter.unnecessarySimpa false
section
variable {P : Program} {ops : Array Oper} {Q : Exit → Act → World → Prop} {S : World → Prop} {a : Act} {w : World} {o : Oper} {r : List (Nat × Oper)}
theorem plan_offE (hw : Region.wanted o (yielded ops a.tmps) = false) (hS : S w) (h : wpPlan P ops Q S r (a.put o.dst undef) w) : wpPlan P ops Q S ((2, o) :: r) a w := by
  intro K hK
  rw [if_neg (by rw [hw]; decide)]
  exact hK.out _ _ hS (fun _ => h)
end
theorem results_cell_tmp {P : Program} {fn : Func} {p q : Tmp} {ty : TypeId} (h : fn.results = #[.cell p ty, .tmp q]) (tmps : Array Value) (w : World) (g : Nat) (t : TypeId) (cs : Array Value) (fr : Nat × Nat) (d : TypeDesc) (v : Value)
    (hp : tmps.getD p undef = .pointer (some ⟨g, 0, none⟩)) (hq : tmps.getD q undef = v) (hg : w.heap[g]? = some (.cells cs t fr))
    (hu : P.underlying ty = some d) (hd : (match d with | .struct _ | .array _ _ => true | _ => false) = true) (hi : (P.info? ty).map (·.size) = some cs.size) :
    (results fn tmps).run P w = .ok (.tuple #[.agg cs, v]) w := by
  have hp' : tmps[p]?.getD undef = .pointer (some ⟨g, 0, none⟩) := by simpa using hp
  have hq' : tmps[q]?.getD undef = v := by simpa using hq
  simp [results, h, hp', hq', asAddr, run_loadVar_row w g t ty cs fr d hg hu hd hi, Result.andThen]
end Go.Proofs.YthhnhbpmpdminaaGreatDoor
