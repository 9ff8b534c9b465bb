/-
The reference's printer (as printed) tells the text. Conditions: how many clauses and numbers there are.
-/
import Derived.Test.YthhnhbpmpdminaaGreatDoorPdj
import Derived.Test.YthhnhbpmpdminaaGreatDoorDpp
import Derived.Test.YthhnhbpmpdminaaGreatDoorDkd
namespace Go.Proofs.YthhnhbpmpdminaaGreatDoor
set_option maxRecDepth 4096
open Go.Lib Go.RowKit Go.Proofs.YthhnhbpmpdminaaGreatDoorW.PrintWords PDimacsPrint

def BA (l : List UInt8) : ByteArray := ⟨l.toArray⟩
theorem BA_app (a b : List UInt8) : BA a ++ BA b = BA (a ++ b) := by
  apply ByteArray.ext
  simp [BA]
theorem BA_size (a : List UInt8) : (BA a).size = a.length := by simp [BA, ByteArray.size]
theorem BA_toList (a : List UInt8) : (BA a).toList = a := by rw [Lib.toList_data]; simp [BA]
theorem dig_at (d : Nat) (h : d < 10) : (⟨#[48, 49, 50, 51, 52, 53, 54, 55, 56, 57]⟩ : ByteArray).extract d (d + 1) = BA [UInt8.ofNat (48 + d)] := by
  rcases (by omega : d = 0 ∨ d = 1 ∨ d = 2 ∨ d = 3 ∨ d = 4 ∨ d = 5 ∨ d = 6 ∨ d = 7 ∨ d = 8 ∨ d = 9) with rfl | rfl | rfl | rfl | rfl | rfl | rfl | rfl | rfl | rfl <;> decide
theorem dec_nat : ∀ (j k n : Nat), n < 10 ^ (j + 1) → j + 1 ≤ k → n < 1000000000 → plaitref19_dec.f k (n : Int) = some (BA (decDigits n)) := by
  intro j
  have small : ∀ (k n : Nat), n < 10 → plaitref19_dec.f (k + 1) (n : Int) = some (BA (decDigits n)) := by
    intro k n hn
    have e1 : wrap64 ((n : Int) + 1) = ((n + 1 : Nat) : Int) := w64 (by omega)
    rw [plaitref19_dec.f, if_neg (by omega), if_pos (by omega), if_pos (by omega), e1, if_pos (by omega), if_pos (by omega), decDigits_lt hn]
    show some (ByteArray.extract _ n (n + 1)) = _
    rw [dig_at n hn]
  induction j with
  | zero =>
    intro k n hn hk _
    obtain ⟨k, rfl⟩ : ∃ i, k = i + 1 := ⟨k - 1, by omega⟩
    exact small k n (by simpa using hn)
  | succ j ih =>
    intro k n hn hk hb
    obtain ⟨k, rfl⟩ : ∃ i, k = i + 1 := ⟨k - 1, by omega⟩
    by_cases h10 : n < 10
    · exact small k n h10
    · have hq : n / 10 < 10 ^ (j + 1) := by rw [Nat.pow_succ] at hn; omega
      have hq9 : n / 10 < 1000000000 := by omega
      have e1 : Int.tdiv (n : Int) 10 = ((n / 10 : Nat) : Int) := rfl
      have e2 : Int.tmod (n : Int) 10 = ((n % 10 : Nat) : Int) := rfl
      have e3 : wrap64 ((n / 10 : Nat) : Int) = ((n / 10 : Nat) : Int) := w64 (by omega)
      have hm : n % 10 < 10 := Nat.mod_lt _ (by omega)
      have e4 : wrap64 (((n % 10 : Nat) : Int) + 1) = ((n % 10 + 1 : Nat) : Int) := w64 (by omega)
      have hi := ih k (n / 10) hq (by omega) hq9
      have hlen := (dec_from 8 (n / 10) hq9).2.2.1
      rw [plaitref19_dec.f, if_neg (by omega), if_neg (by omega), e1, e2, e3, hi, Option.bind_some, e4, if_pos (by omega), if_pos (by omega), if_pos (by omega)]
      have e5 : (⟨#[48, 49, 50, 51, 52, 53, 54, 55, 56, 57]⟩ : ByteArray).extract ((n % 10 : Nat) : Int).toNat ((n % 10 + 1 : Nat) : Int).toNat = BA [UInt8.ofNat (48 + n % 10)] := dig_at _ hm
      rw [e5, BA_size, BA_size, if_pos (by simp only [List.length_cons, List.length_nil]; omega), BA_app, decDigits_ge h10]
theorem dec_int (n : Int) (h : -1000000000 < n ∧ n < 1000000000) (k : Nat) (hk : 10 ≤ k) : plaitref19_dec.f k n = some (BA (itoa n)) := by
  unfold itoa
  by_cases hn : n < 0
  · obtain ⟨k, rfl⟩ : ∃ i, k = i + 1 := ⟨k - 1, by omega⟩
    have e : wrap64 (-n) = ((n.natAbs : Nat) : Int) := by rw [w64 (by omega)]; omega
    have hu : n.natAbs < 1000000000 := by omega
    have hlen := (dec_from 8 n.natAbs hu).2.2.1
    rw [plaitref19_dec.f, if_pos hn, e, dec_nat 8 k _ hu (by omega) hu, Option.bind_some, BA_size, if_pos (by omega), if_pos hn]
    show some (BA [45] ++ BA _) = _
    rw [BA_app]
    rfl
  · rw [if_neg hn]
    have e : n = ((n.toNat : Nat) : Int) := by omega
    have hu : n.toNat < 1000000000 := by omega
    have := dec_nat 8 k n.toNat hu (by omega) hu
    rw [← e] at this
    exact this
theorem rdc {l : List (List Int)} {i : Nat} {c : List Int} (h : l[i]? = some c) : rd_L1 l (i : Int) = c := by
  unfold rd_L1
  rw [show ((i : Int)).toNat = i from rfl]
  simp [List.getD, h]
theorem rdn {c : List Int} {j : Nat} {n : Int} (h : c[j]? = some n) : rd c (j : Int) = n := by
  unfold rd
  rw [show ((j : Int)).toNat = j from rfl]
  simp [List.getD, h]
theorem mx_max (a b : Int) : mx a b = max a b := by unfold mx; omega
/-- the numbers of a clause are looked at -/
theorem p1_row (l : List (List Int)) (i : Nat) (c : List Int) (hi : l[i]? = some c) (hl : l.length ≤ 1000000) (hc : c.length ≤ 1000000) : ∀ (n k : Nat) (m : Int) (j : Nat), j + n = c.length → 0 ≤ m → m ≤ 65536 →
    (okC (c.drop j) → plaitref19_Print.l1 (k + n + 1) l m (i : Int) (j : Int) = plaitref19_Print.l0 k l (mostC m (c.drop j)) ((i + 1 : Nat) : Int)) ∧
    (¬ okC (c.drop j) → plaitref19_Print.l1 (k + n + 1) l m (i : Int) (j : Int) = some (⟨#[]⟩, 190)) := by
  have hil := (List.getElem?_eq_some_iff.1 hi).1
  intro n
  induction n with
  | zero =>
    intro k m j hj h0 h1
    have hd : c.drop j = [] := List.drop_eq_nil_of_le (by omega)
    have e : wrap64 ((i : Int) + 1) = ((i + 1 : Nat) : Int) := w64 (by omega)
    rw [hd]
    refine ⟨fun _ => ?_, fun q => absurd (fun x hx => by cases hx) q⟩
    rw [Nat.add_zero, plaitref19_Print.l1, if_pos (by omega), if_pos (by omega), rdc hi, if_neg (by omega), e]
    rfl
  | succ n ih =>
    intro k m j hj h0 h1
    obtain ⟨x, hx⟩ : ∃ x, c[j]? = some x := ⟨_, List.getElem?_eq_getElem (by omega)⟩
    have hjl := (List.getElem?_eq_some_iff.1 hx).1
    have hd : c.drop j = x :: c.drop (j + 1) := by rw [List.drop_eq_getElem_cons hjl, (List.getElem?_eq_some_iff.1 hx).2]
    have e : wrap64 ((j : Int) + 1) = ((j + 1 : Nat) : Int) := w64 (by omega)
    rw [hd, show k + (n + 1) + 1 = (k + n + 1) + 1 by omega, plaitref19_Print.l1, if_pos (by omega), if_pos (by omega), rdc hi, if_pos (by omega), if_pos (by omega), rdn hx, e, mx_max, mx_max]
    by_cases hx0 : x = 0
    · rw [if_pos hx0]
      exact ⟨fun q => absurd hx0 (q x (by simp)).1, fun _ => rfl⟩
    · rw [if_neg hx0]
      by_cases hx1 : x > 65536
      · rw [if_pos hx1]
        exact ⟨fun q => absurd (q x (by simp)).2.1 (by omega), fun _ => rfl⟩
      · rw [if_neg hx1]
        by_cases hx2 : x < -65536
        · rw [if_pos hx2]
          exact ⟨fun q => absurd (q x (by simp)).2.2 (by omega), fun _ => rfl⟩
        · rw [if_neg hx2]
          have e2 : wrap64 (-x) = -x := w64 (by omega)
          rw [e2]
          obtain ⟨g1, g2⟩ := ih k (mostF m x) (j + 1) (by omega) (by unfold mostF; omega) (by unfold mostF; omega)
          refine ⟨fun q => g1 (fun y hy => q y (by simp [hy])), fun q => g2 (fun q2 => q (fun y hy => ?_))⟩
          rcases List.mem_cons.1 hy with rfl | hy
          · exact ⟨hx0, by omega, by omega⟩
          · exact q2 y hy
theorem p3_row (l : List (List Int)) (i : Nat) (c : List Int) (hi : l[i]? = some c) (hl : l.length ≤ 1000000) (hc : c.length ≤ 1000000) : ∀ (n k : Nat) (T : List UInt8) (j : Nat), j + n = c.length → 10 ≤ k → okC (c.drop j) → T.length + (clT (c.drop j)).length ≤ 65536 →
    plaitref19_Print.l3 (k + n + 1) l (BA T) (i : Int) (j : Int) = plaitref19_Print.l2 k l (BA (T ++ clT (c.drop j))) ((i + 1 : Nat) : Int) := by
  have hil := (List.getElem?_eq_some_iff.1 hi).1
  intro n
  induction n with
  | zero =>
    intro k T j hj hk hok hT
    have hd : c.drop j = [] := List.drop_eq_nil_of_le (by omega)
    have e : wrap64 ((i : Int) + 1) = ((i + 1 : Nat) : Int) := w64 (by omega)
    rw [hd] at hT ⊢
    have hT : T.length + 2 ≤ 65536 := hT
    have e2 : (BA T ++ (⟨#[48, 10]⟩ : ByteArray)) = BA (T ++ clT []) := BA_app T [48, 10]
    have e3 : (BA (T ++ clT [])).size = T.length + 2 := by rw [BA_size, List.length_append]; rfl
    rw [Nat.add_zero, plaitref19_Print.l3, if_pos (by omega), if_pos (by omega), rdc hi, if_neg (by omega), BA_size, if_pos (by omega), e2, e3, if_neg (by omega), e]
  | succ n ih =>
    intro k T j hj hk hok hT
    obtain ⟨x, hx⟩ : ∃ x, c[j]? = some x := ⟨_, List.getElem?_eq_getElem (by omega)⟩
    have hjl := (List.getElem?_eq_some_iff.1 hx).1
    have hd : c.drop j = x :: c.drop (j + 1) := by rw [List.drop_eq_getElem_cons hjl, (List.getElem?_eq_some_iff.1 hx).2]
    have e : wrap64 ((j : Int) + 1) = ((j + 1 : Nat) : Int) := w64 (by omega)
    rw [hd] at hok hT ⊢
    have hxo := okN_rng (hok x (by simp))
    have hlen := (itoa_bytes hxo).2.1
    have e2 : (BA (T ++ itoa x) ++ (⟨#[32]⟩ : ByteArray)) = BA (T ++ numT x) := by
      show BA (T ++ itoa x) ++ BA [32] = _
      rw [BA_app, List.append_assoc]; rfl
    have e4 : clT (x :: c.drop (j + 1)) = numT x ++ clT (c.drop (j + 1)) := by simp [clT]
    have e5 : (numT x).length = (itoa x).length + 1 := by simp [numT]
    rw [e4, List.length_append, e5] at hT
    rw [show k + (n + 1) + 1 = (k + n + 1) + 1 by omega, plaitref19_Print.l3, if_pos (by omega), if_pos (by omega), rdc hi, if_pos (by omega), if_pos (by omega), rdn hx, dec_int x hxo _ (by omega), Option.bind_some, BA_size, BA_size, if_pos (by omega), BA_app, BA_size, List.length_append, if_pos (by omega), e2, e]
    have := ih k (T ++ numT x) (j + 1) (by omega) hk (fun y hy => hok y (by simp [hy])) (by rw [List.length_append, e5]; omega)
    rw [this, e4, List.append_assoc]
theorem p2_rows (l : List (List Int)) (hl : l.length ≤ 1000000) (hcs : ∀ c ∈ l, c.length ≤ 1000000) (hok : okL l) : ∀ (n K : Nat) (T : List UInt8) (i : Nat), i + n = l.length → 2 * bulk (l.drop i) + 12 ≤ K → T.length + ((l.drop i).flatMap clT).length ≤ 65536 →
    plaitref19_Print.l2 K l (BA T) (i : Int) = some (BA (T ++ (l.drop i).flatMap clT), 0) := by
  intro n
  induction n with
  | zero =>
    intro K T i hi hK hT
    obtain ⟨K, rfl⟩ : ∃ j, K = j + 1 := ⟨K - 1, by omega⟩
    have hd : l.drop i = [] := List.drop_eq_nil_of_le (by omega)
    rw [plaitref19_Print.l2, if_neg (by omega), hd]
    simp
  | succ n ih =>
    intro K T i hi hK hT
    obtain ⟨c, hc⟩ : ∃ c, l[i]? = some c := ⟨_, List.getElem?_eq_getElem (by omega)⟩
    have hil := (List.getElem?_eq_some_iff.1 hc).1
    have hd : l.drop i = c :: l.drop (i + 1) := by rw [List.drop_eq_getElem_cons hil, (List.getElem?_eq_some_iff.1 hc).2]
    have hcm := List.mem_of_getElem? hc
    have hb : bulk (l.drop i) = 1 + c.length + bulk (l.drop (i + 1)) := by rw [hd]; simp [bulk]; omega
    rw [hb] at hK
    obtain ⟨k, hk⟩ : ∃ k, K = (k + c.length + 1) + 1 := ⟨K - c.length - 2, by omega⟩
    rw [hd, List.flatMap_cons, List.length_append] at hT
    rw [hk, plaitref19_Print.l2, if_pos (by omega)]
    have h3 := p3_row l i c hc hl (hcs c hcm) c.length k T 0 (by omega) (by omega) (by rw [List.drop_zero]; exact hok c hcm) (by rw [List.drop_zero]; omega)
    rw [List.drop_zero] at h3
    have h4 := ih k (T ++ clT c) (i + 1) (by omega) (by omega) (by rw [List.length_append]; omega)
    rw [hd, List.flatMap_cons, ← List.append_assoc, ← h4, ← h3]
    rfl
theorem p0_rows (l : List (List Int)) (hl : l.length ≤ 1000000) (hcs : ∀ c ∈ l, c.length ≤ 1000000) : ∀ (n K : Nat) (m : Int) (i : Nat), i + n = l.length → 2 * bulk (l.drop i) + (2 * bulk l + 30) ≤ K → 0 ≤ m → m ≤ 65536 →
    (okL (l.drop i) → okL l → (l.drop i).foldl mostC m = mostL l → (prT l).length ≤ 65536 → plaitref19_Print.l0 K l m (i : Int) = some (BA (prT l), 0)) ∧
    (¬ okL (l.drop i) → plaitref19_Print.l0 K l m (i : Int) = some (⟨#[]⟩, 190)) := by
  intro n
  induction n with
  | zero =>
    intro K m i hi hK h0 h1
    obtain ⟨K, rfl⟩ : ∃ j, K = j + 1 := ⟨K - 1, by omega⟩
    have hd : l.drop i = [] := List.drop_eq_nil_of_le (by omega)
    rw [hd]
    refine ⟨fun _ hok hm hT => ?_, fun q => absurd (fun x hx => by cases hx) q⟩
    have hm : m = mostL l := hm
    subst hm
    have b1 := (itoa_bytes (n := mostL l) (by omega)).2.1
    have b2 := (itoa_bytes (n := (l.length : Int)) (by omega)).2.1
    have e1 : (⟨#[112, 32, 99, 110, 102, 32]⟩ : ByteArray) ++ BA (itoa (mostL l)) = BA ([112, 32, 99, 110, 102, 32] ++ itoa (mostL l)) := BA_app [112, 32, 99, 110, 102, 32] _
    have e2 : BA ([112, 32, 99, 110, 102, 32] ++ itoa (mostL l)) ++ (⟨#[32]⟩ : ByteArray) = BA ([112, 32, 99, 110, 102, 32] ++ itoa (mostL l) ++ [32]) := BA_app _ [32]
    have e3 : BA ([112, 32, 99, 110, 102, 32] ++ itoa (mostL l) ++ [32] ++ itoa l.length) ++ (⟨#[10]⟩ : ByteArray) = BA (headT l) := BA_app _ [10]
    have e4 : (headT l).length = (itoa (mostL l)).length + (itoa (l.length : Int)).length + 8 := by unfold headT; simp only [List.length_append, List.length_cons, List.length_nil]; omega
    have h2 := p2_rows l hl hcs hok l.length K (headT l) 0 (by omega) (by rw [List.drop_zero]; omega) (by rw [List.drop_zero]; unfold prT at hT; rw [List.length_append] at hT; exact hT)
    rw [List.drop_zero] at h2
    have h2 : plaitref19_Print.l2 K l (BA (headT l)) 0 = some (BA (prT l), 0) := h2
    rw [plaitref19_Print.l0, if_neg (by omega), dec_int _ (by omega) _ (by omega), Option.bind_some, BA_size, if_pos (by omega), e1, BA_size, if_pos (by simp only [List.length_append, List.length_cons, List.length_nil]; omega), dec_int _ (by omega) _ (by omega), Option.bind_some, e2, BA_size, BA_size,
      if_pos (by simp only [List.length_append, List.length_cons, List.length_nil]; omega), BA_app, BA_size, if_pos (by simp only [List.length_append, List.length_cons, List.length_nil]; omega), e3]
    exact h2
  | succ n ih =>
    intro K m i hi hK h0 h1
    obtain ⟨c, hc⟩ : ∃ c, l[i]? = some c := ⟨_, List.getElem?_eq_getElem (by omega)⟩
    have hil := (List.getElem?_eq_some_iff.1 hc).1
    have hd : l.drop i = c :: l.drop (i + 1) := by rw [List.drop_eq_getElem_cons hil, (List.getElem?_eq_some_iff.1 hc).2]
    have hcm := List.mem_of_getElem? hc
    have hb : bulk (l.drop i) = 1 + c.length + bulk (l.drop (i + 1)) := by rw [hd]; simp [bulk]; omega
    rw [hb] at hK
    obtain ⟨k, hk⟩ : ∃ k, K = (k + c.length + 1) + 1 := ⟨K - c.length - 2, by omega⟩
    have hr := p1_row l i c hc hl (hcs c hcm) c.length k m 0 (by omega) h0 h1
    rw [List.drop_zero] at hr
    rw [hk, plaitref19_Print.l0, if_pos (by omega), hd]
    refine ⟨fun ho hok hm hT => ?_, fun q => ?_⟩
    · have hoc : okC c := ho c (by simp)
      have hle := mostC_le c m h0 h1 hoc
      have h5 := (ih k (mostC m c) (i + 1) (by omega) (by omega) hle.1 hle.2).1 (fun x hx => ho x (by simp [hx])) hok hm hT
      exact (hr.1 hoc).trans h5
    · by_cases hoc : okC c
      · have hle := mostC_le c m h0 h1 hoc
        have h5 := (ih k (mostC m c) (i + 1) (by omega) (by omega) hle.1 hle.2).2 (fun q2 => q (fun x hx => by
          rcases List.mem_cons.1 hx with rfl | hx
          · exact hoc
          · exact q2 x hx))
        exact (hr.1 hoc).trans h5
      · exact hr.2 hoc
theorem print_f (l : List (List Int)) (hl : l.length ≤ 1000000) (hcs : ∀ c ∈ l, c.length ≤ 1000000) : ∃ K,
    (okL l → (prT l).length ≤ 65536 → plaitref19_Print.f K l = some (BA (prT l), 0)) ∧ (¬ okL l → plaitref19_Print.f K l = some (⟨#[]⟩, 190)) := by
  have h := p0_rows l hl hcs l.length (2 * bulk l + (2 * bulk l + 30)) 0 0 (by omega) (by rw [List.drop_zero]; omega) (by omega) (by omega)
  rw [List.drop_zero] at h
  exact ⟨_, fun ho hT => h.1 ho ho rfl hT, h.2⟩
/-- Size: more than the bound, or the bulk. -/
theorem s_rows (l : List (List Int)) (b : Nat) (hl : l.length ≤ 140737488355328) (hcs : ∀ c ∈ l, c.length ≤ 140737488355328) (hb : b ≤ 1000000) : ∀ (n K : Nat) (s i : Nat), i + n = l.length → n + 1 ≤ K → s + (((l.drop i).map List.length).sum) = bulk l →
    ∃ r : Int, plaithelp_Size.l0 K l (b : Int) (s : Int) (i : Int) = some r ∧ (bulk l ≤ b → r = (bulk l : Int)) ∧ (b < bulk l → (b : Int) < r) := by
  intro n
  induction n with
  | zero =>
    intro K s i hi hK hs
    obtain ⟨K, rfl⟩ : ∃ j, K = j + 1 := ⟨K - 1, by omega⟩
    have hd : l.drop i = [] := List.drop_eq_nil_of_le (by omega)
    rw [hd] at hs
    have hs : s = bulk l := by simpa using hs
    rw [plaithelp_Size.l0, if_neg (by omega)]
    exact ⟨_, rfl, fun _ => by omega, fun _ => by omega⟩
  | succ n ih =>
    intro K s i hi hK hs
    obtain ⟨K, rfl⟩ : ∃ j, K = j + 1 := ⟨K - 1, by omega⟩
    obtain ⟨c, hc⟩ : ∃ c, l[i]? = some c := ⟨_, List.getElem?_eq_getElem (by omega)⟩
    have hil := (List.getElem?_eq_some_iff.1 hc).1
    have hd : l.drop i = c :: l.drop (i + 1) := by rw [List.drop_eq_getElem_cons hil, (List.getElem?_eq_some_iff.1 hc).2]
    have hcl := hcs c (List.mem_of_getElem? hc)
    rw [hd, List.map_cons, List.sum_cons] at hs
    rw [plaithelp_Size.l0, if_pos (by omega)]
    by_cases hsb : s ≤ b
    · have g1 : (s : Int) ≤ (b : Int) := by omega
      have g2 : (0 : Int) ≤ (i : Int) := by omega
      have e2 : wrap64 ((i : Int) + 1) = ((i + 1 : Nat) : Int) := w64 (by omega)
      rw [if_pos g1, if_pos g2, rdc hc, e2]
      clear e2
      have e1 : wrap64 ((s : Int) + (c.length : Int)) = ((s + c.length : Nat) : Int) := (w64 (by omega)).trans (Int.natCast_add _ _).symm
      rw [e1]
      clear e1
      have f1 : i + 1 + n = l.length := by omega
      have f2 : n + 1 ≤ K := by omega
      have f3 : s + c.length + ((l.drop (i + 1)).map List.length).sum = bulk l := by rw [Nat.add_assoc]; exact hs
      exact ih K (s + c.length) (i + 1) f1 f2 f3
    · rw [if_neg (by omega)]
      exact ⟨_, rfl, fun _ => by omega, fun _ => by omega⟩
theorem size_f (l : List (List Int)) (b : Nat) (hl : l.length ≤ 140737488355328) (hcs : ∀ c ∈ l, c.length ≤ 140737488355328) (hb : b ≤ 1000000) : ∃ (K : Nat) (r : Int), plaithelp_Size.f K l (b : Int) = some r ∧ (bulk l ≤ b → r = (bulk l : Int)) ∧ (b < bulk l → (b : Int) < r) := by
  obtain ⟨r, h⟩ := s_rows l b hl hcs hb l.length (l.length + 1) l.length 0 (by omega) (by omega) (by rw [List.drop_zero]; rfl)
  exact ⟨_, r, h⟩
theorem bulk_row {l : List (List Int)} {c : List Int} (h : c ∈ l) : c.length ≤ bulk l := by
  obtain ⟨j, hj, rfl⟩ := List.mem_iff_getElem.1 h
  have := lens_at (List.getElem?_eq_getElem hj)
  unfold bulk
  unfold lens at this
  omega
end Go.Proofs.YthhnhbpmpdminaaGreatDoor
