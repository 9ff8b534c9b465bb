/-
Numerals: the program's. Conditions: none.
-/
import Derived.Test.YthhnhbpmpdminaaGreatDoorShr
import Derived.Test.YthhnhbpmpdminaaGreatDoorNmr
import Derived.IntWalk
import Derived.Lib.AtoiTie
namespace Go.Proofs.YthhnhbpmpdminaaGreatDoor
open Go.RowKit Go.Proofs.YthhnhbpmpdminaaGreatDoorW.PrintWords
set_option maxRecDepth 4096

/-- A numeral of at most so many digits, the first one not 0. -/
def numO (most : Nat) (l : List UInt8) : Option Nat := if l.length ≤ most ∧ ¬ (1 < l.length ∧ l[0]? = some 48) then Lib.decNat l else none
def numV (o : Option Nat) : Value := match o with
  | some n => .tuple #[.int .i64 (n : Int), .bool true]
  | none => .tuple #[.int .i64 0, .bool false]

theorem dropWhile_nil_iff (p : UInt8 → Bool) : ∀ l : List UInt8, l.dropWhile p = [] ↔ ∀ b ∈ l, p b = true
  | [] => by simp
  | a :: l => by
    rw [List.dropWhile_cons]
    cases h : p a with
    | true => simp [h, dropWhile_nil_iff p l]
    | false => simp [h]
theorem dropWhile_head (p : UInt8 → Bool) : ∀ (l : List UInt8) (a : UInt8) (r : List UInt8), l.dropWhile p = a :: r → p a = false
  | [], _, _, h => by simp at h
  | b :: l, a, r, h => by
    rw [List.dropWhile_cons] at h
    cases hb : p b with
    | true => rw [hb] at h; exact dropWhile_head p l a r h
    | false => rw [hb] at h; simp at h; rw [← h.1]; exact hb
theorem trimS_nil_iff (l cs : List UInt8) : Lib.trimS l cs = [] ↔ ∀ b ∈ l, cs.contains b = true := by
  unfold Lib.trimS Lib.trimLeftS Lib.trimRightS
  rw [dropWhile_nil_iff]
  constructor
  · intro h
    cases hr : l.reverse.dropWhile (cs.contains ·) with
    | nil =>
      rw [dropWhile_nil_iff] at hr
      intro b hb
      exact hr b (by simpa using hb)
    | cons a r =>
      have := dropWhile_head _ _ _ _ hr
      rw [hr] at h
      have := h a (by simp)
      simp_all
  · intro h b hb
    have : b ∈ l.reverse.dropWhile (cs.contains ·) := by simpa using hb
    exact h b (by have := (List.dropWhile_sublist (cs.contains ·)).subset this; simpa using this)
theorem digits_contains (b : UInt8) : ([48, 49, 50, 51, 52, 53, 54, 55, 56, 57] : List UInt8).contains b = (Lib.digitVal b).isSome := by
  have key : ∀ k : UInt8, (b == k) = decide (b.toNat = k.toNat) := fun k => by
    by_cases e : b = k
    · subst e; simp
    · have : b.toNat ≠ k.toNat := fun q => e (UInt8.toNat_inj.1 q)
      simp [e, this]
  unfold Lib.digitVal
  simp only [List.contains, List.elem, key]
  have c : ∀ n : Nat, n < 256 → (UInt8.ofNat n).toNat = n := fun n h => by simp; omega
  by_cases h : 48 ≤ b.toNat ∧ b.toNat ≤ 57
  · rw [if_pos h]
    have : b.toNat = 48 ∨ b.toNat = 49 ∨ b.toNat = 50 ∨ b.toNat = 51 ∨ b.toNat = 52 ∨ b.toNat = 53 ∨ b.toNat = 54 ∨ b.toNat = 55 ∨ b.toNat = 56 ∨ b.toNat = 57 := by omega
    rcases this with h | h | h | h | h | h | h | h | h | h <;> rw [h] <;> rfl
  · rw [if_neg h]
    have h1 : b.toNat ≠ 48 ∧ b.toNat ≠ 49 ∧ b.toNat ≠ 50 ∧ b.toNat ≠ 51 ∧ b.toNat ≠ 52 ∧ b.toNat ≠ 53 ∧ b.toNat ≠ 54 ∧ b.toNat ≠ 55 ∧ b.toNat ≠ 56 ∧ b.toNat ≠ 57 := by omega
    obtain ⟨h1, h2, h3, h4, h5, h6, h7, h8, h9, h10⟩ := h1
    simp [h1, h2, h3, h4, h5, h6, h7, h8, h9, h10]
theorem decFrom_some (l : List UInt8) : ∀ acc, (∀ b ∈ l, (Lib.digitVal b).isSome = true) → ∃ n, Lib.decFrom acc l = some n := by
  induction l with
  | nil => intro acc _; exact ⟨acc, rfl⟩
  | cons a l ih =>
    intro acc h
    obtain ⟨d, hd⟩ := Option.isSome_iff_exists.1 (h a (by simp))
    obtain ⟨n, hn⟩ := ih (acc * 10 + d) fun b hb => h b (by simp [hb])
    exact ⟨n, by simp only [Lib.decFrom, hd]; exact hn⟩
theorem decFrom_all (l : List UInt8) : ∀ acc n, Lib.decFrom acc l = some n → ∀ b ∈ l, (Lib.digitVal b).isSome = true := by
  induction l with
  | nil => intro _ _ _ b hb; cases hb
  | cons a l ih =>
    intro acc n h b hb
    simp only [Lib.decFrom] at h
    split at h
    · rename_i d hd
      rcases List.mem_cons.1 hb with rfl | hb
      · rw [hd]; rfl
      · exact ih _ _ h b hb
    · cases h
theorem trim_digits {l : List UInt8} (h : l ≠ []) : Lib.trimS l [48, 49, 50, 51, 52, 53, 54, 55, 56, 57] = [] ↔ ∃ n, Lib.decNat l = some n := by
  rw [trimS_nil_iff]
  have e : Lib.decNat l = Lib.decFrom 0 l := by
    unfold Lib.decNat
    cases l with
    | nil => exact absurd rfl h
    | cons _ _ => rfl
  rw [e]
  constructor
  · intro q; exact decFrom_some l 0 fun b hb => by rw [← digits_contains]; exact q b hb
  · rintro ⟨n, hn⟩ b hb
    rw [digits_contains]; exact decFrom_all l 0 n hn b hb
theorem atoi_dec {l : List UInt8} {n : Nat} (h : Lib.decNat l = some n) : Lib.atoi l = some (n : Int) := by
  obtain ⟨h1, h2⟩ := Lib.decNat_some h
  cases l with
  | nil => exact absurd rfl h1
  | cons b r =>
    have hd := decFrom_all _ _ _ h2 b (by simp)
    obtain ⟨d, hd⟩ := Option.isSome_iff_exists.1 hd
    have hb := Lib.digitVal_eq hd
    have b1 : (b == 45) = false := by
      rw [beq_eq_false_iff_ne]; rintro rfl; exact absurd hb.1 (by decide)
    have b2 : (b == 43) = false := by
      rw [beq_eq_false_iff_ne]; rintro rfl; exact absurd hb.1 (by decide)
    simp only [Lib.atoi, b1, b2, h]
    rfl

theorem Trim_any (s : ByteArray) (w : World) (hs : s.size ≤ 9223372036854775807) : Calls Tryz.prog 93 #[.string s, .string ⟨#[48, 49, 50, 51, 52, 53, 54, 55, 56, 57]⟩] w fun e w' =>
    e = .returned (.string ⟨(Lib.trimS s.data.toList [48, 49, 50, 51, 52, 53, 54, 55, 56, 57]).toArray⟩) ∧ Below w.heap.size w w' :=
  Any.strings_Trim_laid Tryz.lays160 (by kernel_rfl) s ⟨#[48, 49, 50, 51, 52, 53, 54, 55, 56, 57]⟩ w hs (by decide) (ascii_of_all (by decide))
theorem Atoi_any (s : ByteArray) (n : Nat) (w : World) (hs : s.size ≤ 18) (h : Lib.decNat s.data.toList = some n) : Calls Tryz.prog 94 #[.string s] w fun e w' => e = .returned (.tuple #[.int .i64 (n : Int), .nilIface]) ∧ Below w.heap.size w w' := by
  have hl : s.data.toList.length = s.size := by rw [Array.length_toList]; rfl
  have ha : Lib.atoiAll s.data.toList = .ok (n : Int) := by rw [Lib.atoiAll_short _ (by omega), atoi_dec h]; rfl
  refine (show Calls Tryz.prog 94 #[.string s] w fun e w' => e = .returned (.tuple #[.int .i64 (n : Int), .nilIface]) ∧ (w' = w ∨ ∃ t, w' = Lib.bytesWorld w _ t) from Any.strconv_Atoi_ok Tryz.laysC172 s (by omega) (n : Int) ha w).mono ?_
  rintro e w' ⟨rfl, hw⟩
  refine ⟨rfl, ?_⟩
  rcases hw with rfl | ⟨t, rfl⟩
  · exact Below.refl _ _
  · exact bytes_below (Below.refl _ _) (Nat.le_refl _) _ t
set_option maxHeartbeats 2000000 in
theorem numeral_any (x : Sx) (c : List Value) (W : World) (hc : RT W (fun k => k < W.heap.size) x c) : Calls Tryz.prog 65 #[.agg c.toArray, .int .i64 3] W fun e W' =>
    e = .returned (numV (if x.list then none else numO 3 x.word.data.toList)) ∧ Below W.heap.size W W' := by
  obtain ⟨A, k, rfl, hk, hm, hws, hR⟩ := RT_cells hc
  clear hc hR
  have hl : x.word.data.toList.length = x.word.size := by rw [Array.length_toList]; rfl
  cases hx : x.list with
  | true =>
    go_enter Tryz.func65, Tryz.ntmps65
    go_wp2_with fail
    go_returns
    exact ⟨rfl, ((Mod.refl (fun _ => False) W).alloc _).below⟩
  | false =>
    simp only [Bool.false_eq_true, if_false]
    by_cases hp : x.word.data.toList ≠ [] ∧ x.word.data.toList.length ≤ 3 ∧ ¬ (1 < x.word.data.toList.length ∧ x.word.data.toList[0]? = some 48)
    · obtain ⟨p1, p2, p3⟩ := hp
      have HN : Aside0 (numO 3 x.word.data.toList = Lib.decNat x.word.data.toList) := ⟨by unfold numO; rw [if_pos ⟨p2, p3⟩]⟩
      have h0 : 0 < x.word.size := by
        rcases Nat.eq_zero_or_pos x.word.size with e | e
        · exact absurd (List.length_eq_zero_iff.1 (by omega)) p1
        · exact e
      have hg : x.word.data.toList[0]? = some x.word[0] := List.getElem?_eq_some_iff.2 ⟨by omega, rfl⟩
      have q1 : (x.word.toList = []) ↔ False := by rw [ByteArray.toList_eq]; simpa using p1
      have q2 : (x.word.size : Int) ≤ 3 := by omega
      have q3 : ¬ ((x.word[0].toNat : Int) = 48 ∧ 1 < (x.word.size : Int)) := fun ⟨a, b⟩ => p3 ⟨by omega, by rw [hg]; exact congrArg some (UInt8.toNat_inj.1 (show x.word[0].toNat = 48 by omega))⟩
      have HT := Aside0.mk (trim_digits p1)
      have P1 := Aside0.mk p1
      have Q3 := Aside0.mk q3
      have Q1 := Aside0.mk q1
      clear p1 p2 p3 hg q3 q1
      go_enter Tryz.func65, Tryz.ntmps65
      go_wp2_with fail
      all_goals first
        | (exfalso; first | exact Q1.out.1 (by assumption) | omega | (have q3 := Q3.out; omega))
        | skip
      all_goals (
        refine (Trim_any x.word _ hws).mono ?_
        rintro e w1 ⟨rfl, hB⟩
        have HB := Aside0.mk (((Mod.refl (fun _ => False) W).alloc _).below.trans (hB.mono (by simp)))
        clear hB
        cases ht : Lib.trimS x.word.data.toList [48, 49, 50, 51, 52, 53, 54, 55, 56, 57] with
        | nil =>
          obtain ⟨n, hn⟩ := HT.out.1 ht
          have HN2 := Aside0.mk hn
          clear ht
          go_wp2_with fail
          all_goals first
            | (exfalso; first | (simp_all; done) | (simp_all; omega))
            | skip
          refine (Atoi_any x.word n _ (by omega) HN2.out).mono ?_
          rintro e w2 ⟨rfl, hB⟩
          have HB2 := Aside0.mk (HB.out.trans (hB.mono HB.out.size))
          clear hB hn
          go_wp2_with fail
          go_returns
          exact ⟨by rw [HN.out, HN2.out]; rfl, HB2.out⟩
        | cons b r =>
          have HN2 : Aside0 (Lib.decNat x.word.data.toList = none) := ⟨by
            cases hq : Lib.decNat x.word.data.toList with
            | none => rfl
            | some n => have := HT.out.2 ⟨n, hq⟩; rw [ht] at this; cases this⟩
          clear ht
          go_wp2_with fail
          go_returns
          exact ⟨by rw [HN.out, HN2.out]; rfl, HB.out⟩)
    · have HN : Aside0 (numO 3 x.word.data.toList = none) := ⟨by
        unfold numO
        by_cases h1 : x.word.data.toList = []
        · rw [h1]; rfl
        · rw [if_neg (fun q => hp ⟨h1, q.1, q.2⟩)]⟩
      have HP := Aside0.mk hp
      clear hp
      go_enter Tryz.func65, Tryz.ntmps65
      go_wp2_with fail
      all_goals first
        | (go_returns
           exact ⟨by rw [HN.out]; rfl, ((Mod.refl (fun _ => False) W).alloc _).below⟩)
        | (exfalso
           apply HP.out
           simp only [ByteArray.toList_eq] at *
           refine ⟨by assumption, by omega, fun q => ?_⟩
           have hg : x.word.data.toList[0]? = some x.word[0] := List.getElem?_eq_some_iff.2 ⟨by omega, rfl⟩
           obtain ⟨q1, q2⟩ := q
           rw [hg] at q2
           have := congrArg UInt8.toNat (Option.some.inj q2)
           simp at this
           omega)
end Go.Proofs.YthhnhbpmpdminaaGreatDoor
