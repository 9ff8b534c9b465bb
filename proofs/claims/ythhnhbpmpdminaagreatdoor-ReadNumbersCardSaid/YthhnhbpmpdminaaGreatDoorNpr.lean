/-
Numbers as texts, and what the reader of terms makes of them. Conditions: none.
-/
import Derived.Test.YthhnhbpmpdminaaGreatDoorRpu
import Derived.Lib.ItoaNum
namespace Go.Proofs.YthhnhbpmpdminaaGreatDoor
set_option maxRecDepth 4096
open Go.RowKit Go.Lib
theorem nde_snoc (l : List UInt8) (b : UInt8) : ∀ acc, Lib.decFrom acc (l ++ [b]) = (Lib.decFrom acc l).bind fun n => (Lib.digitVal b).map fun d => n * 10 + d := by
  induction l with
  | nil =>
    intro acc
    show (match Lib.digitVal b with | some d => Lib.decFrom (acc * 10 + d) [] | none => none) = _
    cases Lib.digitVal b <;> rfl
  | cons a l ih =>
    intro acc
    show (match Lib.digitVal a with | some d => Lib.decFrom (acc * 10 + d) (l ++ [b]) | none => none) = (match Lib.digitVal a with | some d => Lib.decFrom (acc * 10 + d) l | none => none).bind _
    cases Lib.digitVal a with
    | none => rfl
    | some d => exact ih _
theorem decDigits_lt {u : Nat} (h : u < 10) : decDigits u = [UInt8.ofNat (48 + u)] := by rw [decDigits, dif_pos h]
theorem decDigits_ge {u : Nat} (h : ¬ u < 10) : decDigits u = decDigits (u / 10) ++ [UInt8.ofNat (48 + u % 10)] := by rw [decDigits, dif_neg h]
theorem ndi_val {d : Nat} (h : d < 10) : Lib.digitVal (UInt8.ofNat (48 + d)) = some d := by
  have e : (UInt8.ofNat (48 + d)).toNat = 48 + d := by rw [UInt8.toNat_ofNat']; omega
  unfold Lib.digitVal
  rw [e, if_pos (by omega)]
  congr 1; omega
theorem nde_from : ∀ (k u : Nat), u < 10 ^ (k + 1) → Lib.decFrom 0 (decDigits u) = some u ∧ decDigits u ≠ [] ∧ (decDigits u).length ≤ k + 1 ∧ (1 < (decDigits u).length → (decDigits u)[0]? ≠ some 48) ∧ (0 < u → (decDigits u)[0]? ≠ some 48) ∧ ∀ b ∈ decDigits u, 48 ≤ b.toNat ∧ b.toNat ≤ 57 := by
  intro k
  induction k with
  | zero =>
    intro u hu
    have hu : u < 10 := by simpa using hu
    rw [decDigits_lt hu]
    have e : (UInt8.ofNat (48 + u)).toNat = 48 + u := by rw [UInt8.toNat_ofNat']; omega
    refine ⟨?_, by simp, by simp, fun h => by simp at h, fun h => ?_, fun b hb => ?_⟩
    · show (match Lib.digitVal (UInt8.ofNat (48 + u)) with | some d => Lib.decFrom (0 * 10 + d) [] | none => none) = _
      rw [ndi_val hu]
      show some (0 * 10 + u) = some u
      rw [Nat.zero_mul, Nat.zero_add]
    · intro q
      have q : UInt8.ofNat (48 + u) = 48 := by simpa using q
      rw [q] at e
      have : (48 : UInt8).toNat = 48 := rfl
      omega
    · rw [List.mem_singleton] at hb
      subst hb
      omega
  | succ k ih =>
    intro u hu
    by_cases h10 : u < 10
    · obtain ⟨h1, h2, h3, h4, h5, h6⟩ := ih u (Nat.lt_of_lt_of_le h10 (by rw [Nat.pow_succ]; have := Nat.pow_pos (n := k) (show 0 < 10 by omega); omega))
      exact ⟨h1, h2, by omega, h4, h5, h6⟩
    · have hq : u / 10 < 10 ^ (k + 1) := by rw [Nat.pow_succ] at hu; omega
      obtain ⟨h1, h2, h3, h4, h5, h6⟩ := ih (u / 10) hq
      have hm : u % 10 < 10 := Nat.mod_lt _ (by omega)
      have e : (UInt8.ofNat (48 + u % 10)).toNat = 48 + u % 10 := by rw [UInt8.toNat_ofNat']; omega
      rw [decDigits_ge h10]
      have h0 : (decDigits (u / 10) ++ [UInt8.ofNat (48 + u % 10)])[0]? = (decDigits (u / 10))[0]? := by
        cases hd : decDigits (u / 10) with
        | nil => exact absurd hd h2
        | cons a r => rfl
      refine ⟨?_, by simp, by simp; omega, fun _ => ?_, fun _ => ?_, fun b hb => ?_⟩
      · rw [nde_snoc, h1, ndi_val hm]
        show some (u / 10 * 10 + u % 10) = some u
        congr 1; omega
      · rw [h0]; exact h5 (by omega)
      · rw [h0]; exact h5 (by omega)
      · rcases List.mem_append.1 hb with hb | hb
        · exact h6 b hb
        · rw [List.mem_singleton] at hb
          subst hb
          omega
theorem numO_dec {most u : Nat} (hm : 9 ≤ most) (h : u < 1000000000) : numO most (decDigits u) = some u := by
  obtain ⟨h1, h2, h3, h4, _, _⟩ := nde_from 8 u h
  unfold numO
  rw [if_pos ⟨by omega, fun q => h4 q.1 q.2⟩]
  unfold Lib.decNat
  rw [if_neg (by simpa using h2)]
  exact h1
def bw (m : Nat) : Nat → List UInt8
  | 0 => []
  | k + 1 => bw (m / 2) k ++ [UInt8.ofNat (48 + m % 2)]
theorem bw_len : ∀ (k m : Nat), (bw m k).length = k
  | 0, _ => rfl
  | k + 1, m => by simp [bw, bw_len k]
theorem bw_mem : ∀ (k m : Nat), ∀ b ∈ bw m k, b = 48 ∨ b = 49
  | 0, _, b, hb => by cases hb
  | k + 1, m, b, hb => by
    unfold bw at hb
    rcases List.mem_append.1 hb with hb | hb
    · exact bw_mem k _ b hb
    · rw [List.mem_singleton] at hb
      subst hb
      rcases Nat.mod_two_eq_zero_or_one m with h | h <;> rw [h]
      · exact .inl rfl
      · exact .inr rfl
theorem digF_app (each : Nat) : ∀ (l r : List UInt8) (acc n : Nat), digF each acc l = some n → digF each acc (l ++ r) = digF each n r
  | [], r, acc, n, h => by cases h; rfl
  | b :: t, r, acc, n, h => by
    rw [List.cons_append]
    cases hb : hexV b with
    | none => simp [digF, hb] at h
    | some d =>
      by_cases hd : d < 2 ^ each
      · have h2 : digF each (acc * 2 ^ each + d) t = some n := by simpa [digF, hb, hd] using h
        have h3 : digF each acc (b :: (t ++ r)) = digF each (acc * 2 ^ each + d) (t ++ r) := by simp [digF, hb, hd]
        rw [h3]; exact digF_app each t r _ n h2
      · simp [digF, hb, hd] at h
theorem bit_hex (m : Nat) : hexV (UInt8.ofNat (48 + m % 2)) = some (m % 2) := by
  rcases Nat.mod_two_eq_zero_or_one m with h | h <;> rw [h] <;> rfl
theorem bw_dig : ∀ (k m : Nat), m < 2 ^ k → digF 1 0 (bw m k) = some m
  | 0, m, h => by
    have : m = 0 := by simpa using h
    subst this; rfl
  | k + 1, m, h => by
    have h2 : m / 2 < 2 ^ k := by rw [Nat.pow_succ] at h; omega
    unfold bw
    rw [digF_app 1 _ _ 0 (m / 2) (bw_dig k _ h2)]
    unfold digF
    rw [bit_hex]
    simp only
    rw [if_pos (by have := Nat.mod_lt m (show 0 < 2 by omega); omega)]
    unfold digF
    congr 1
    omega
theorem npa_bits (k m : Nat) (h1 : 1 ≤ k) (h2 : k ≤ 128) (hm : m < 2 ^ k) : bvParse (35 :: 98 :: bw m k) = some ⟨k, m⟩ := by
  have hne : bw m k ≠ [] := fun q => by have := bw_len k m; rw [q] at this; simp at this; omega
  unfold bvParse
  rw [if_neg (by simp), if_neg (by simp), if_pos (by rfl)]
  show digitsV 1 (bw m k) = _
  unfold digitsV
  rw [if_neg (by rw [bw_len]; rintro (q | q); exact hne q; omega), bw_dig k m hm, bw_len, Nat.one_mul]
  rfl
def hexC (d : Nat) : UInt8 := ([48, 49, 50, 51, 52, 53, 54, 55, 56, 57, 97, 98, 99, 100, 101, 102] : List UInt8).getD d 48
theorem npa_hex : ∀ (d : Nat), d < 16 → bvParse [35, 120, hexC d] = some ⟨4, d⟩
  | 0, _ => rfl
  | 1, _ => rfl
  | 2, _ => rfl
  | 3, _ => rfl
  | 4, _ => rfl
  | 5, _ => rfl
  | 6, _ => rfl
  | 7, _ => rfl
  | 8, _ => rfl
  | 9, _ => rfl
  | 10, _ => rfl
  | 11, _ => rfl
  | 12, _ => rfl
  | 13, _ => rfl
  | 14, _ => rfl
  | 15, _ => rfl
  | d + 16, h => by omega
theorem npl_not {b : UInt8} (h : plainB b = true) : blankB b = false ∧ (b == 59) = false ∧ (b == 40) = false ∧ (b == 41) = false ∧ (b == 124) = false := by
  refine ⟨?_, ?_, ?_, ?_, ?_⟩
  · cases q : blankB b with
    | false => rfl
    | true =>
      unfold blankB at q
      simp only [Bool.or_eq_true, beq_iff_eq] at q
      rcases q with ((q | q) | q) | q <;> (subst q; exact absurd h (by decide))
  all_goals
    rw [beq_eq_false_iff_ne]
    rintro rfl
    exact absurd h (by decide)
theorem nsc_mid (a m r : List UInt8) (hm : ∀ b ∈ m, plainB b = true) (hr : ∀ b, r.head? = some b → plainB b = false) : scan plainB (a ++ (m ++ r)) a.length = a.length + m.length := by
  unfold scan
  rw [List.drop_left]
  congr 1
  rw [List.takeWhile_append_of_pos hm]
  cases r with
  | nil => simp
  | cons b t =>
    rw [List.takeWhile_cons, if_neg (by rw [hr b rfl]; simp)]
    simp
theorem ncu_mid (a m r : List UInt8) : cut (a ++ (m ++ r)) a.length (a.length + m.length) = ⟨m.toArray⟩ := by
  unfold cut
  rw [List.drop_left, Nat.add_sub_cancel_left, List.take_left]
theorem npr_word (a m r : List UInt8) (hne : m ≠ []) (hm : ∀ b ∈ m, plainB b = true) (hr : ∀ b, r.head? = some b → plainB b = false) (n : Nat) (cur : List Sx) (stk : List (Nat × List Sx)) :
    prun (a ++ (m ++ r)) (n + 1) ⟨a.length, cur, stk⟩ = prun (a ++ (m ++ r)) n ⟨a.length + m.length, cur ++ [wordSx ⟨m.toArray⟩], stk⟩ := by
  obtain ⟨b, t, rfl⟩ := List.exists_cons_of_ne_nil hne
  have hb := hm b (by simp)
  obtain ⟨p1, p2, p3, p4, p5⟩ := npl_not hb
  have hg : (a ++ (b :: t ++ r))[a.length]? = some b := by simp
  have hs : pstep (a ++ (b :: t ++ r)) ⟨a.length, cur, stk⟩ b = .ok ⟨a.length + (b :: t).length, cur ++ [wordSx ⟨(b :: t).toArray⟩], stk⟩ := by
    unfold pstep
    rw [p1, p2, p3, p4, p5, hb]
    simp only [Bool.false_eq_true, if_false, if_true]
    rw [nsc_mid a (b :: t) r hm hr, ncu_mid]
  show (match (a ++ (b :: t ++ r))[a.length]? with | none => _ | some b => _) = _
  rw [hg]
  simp only
  rw [hs]
theorem npr_blank (t : List UInt8) (n i : Nat) (cur : List Sx) (stk : List (Nat × List Sx)) (h : t[i]? = some 32) : prun t (n + 1) ⟨i, cur, stk⟩ = prun t n ⟨i + 1, cur, stk⟩ := by
  show (match t[i]? with | none => _ | some b => _) = _
  rw [h]
  rfl
theorem npr_end (t : List UInt8) (n : Nat) (cur : List Sx) (stk : List (Nat × List Sx)) : prun t n ⟨t.length, cur, stk⟩ = .ok ⟨t.length, cur, stk⟩ := by
  cases n with
  | zero => rfl
  | succ n =>
    show (match t[t.length]? with | none => _ | some b => _) = _
    rw [List.getElem?_eq_none (Nat.le_refl _)]
theorem npa_word (m : List UInt8) (hne : m ≠ []) (hm : ∀ b ∈ m, plainB b = true) (hl : m.length ≤ 65536) : parse m = .ok [wordSx ⟨m.toArray⟩] := by
  obtain ⟨k, hk⟩ : ∃ k, m.length = k + 1 := ⟨m.length - 1, by have := List.length_pos_iff.2 hne; omega⟩
  have h := npr_word [] m [] hne hm (by simp) k [] []
  simp only [List.nil_append, List.append_nil, List.length_nil, Nat.zero_add] at h
  unfold parse
  rw [if_neg (by omega), hk, h, npr_end]
  rfl
/-- The text of a number of a width. -/
def bvT (d w : List UInt8) : List UInt8 := [40, 95, 32, 98, 118] ++ (d ++ ([32] ++ (w ++ [41])))
theorem npa_bv (d w : List UInt8) (hd : ∀ b ∈ d, plainB b = true) (hw : ∀ b ∈ w, plainB b = true) (hwn : w ≠ []) (hl : d.length + w.length ≤ 60000) :
    parse (bvT d w) = .ok [listSx [wordSx ⟨#[95]⟩, wordSx ⟨([98, 118] ++ d).toArray⟩, wordSx ⟨w.toArray⟩]] := by
  have hlen : (bvT d w).length = d.length + w.length + 7 := by simp [bvT]; omega
  unfold parse
  rw [if_neg (by omega), hlen]
  have s1 : ∀ n, prun (bvT d w) (n + 1) ⟨0, [], []⟩ = prun (bvT d w) n ⟨1, [], [(0, [])]⟩ := fun n => rfl
  have s2 : ∀ n, prun (bvT d w) (n + 1) ⟨1, [], [(0, [])]⟩ = prun (bvT d w) n ⟨2, [wordSx ⟨#[95]⟩], [(0, [])]⟩ := fun n =>
    npr_word [40] [95] ([32, 98, 118] ++ (d ++ ([32] ++ (w ++ [41])))) (by simp) (by decide) (fun b hb => by cases hb; rfl) n [] [(0, [])]
  have s3 : ∀ n, prun (bvT d w) (n + 1) ⟨2, [wordSx ⟨#[95]⟩], [(0, [])]⟩ = prun (bvT d w) n ⟨3, [wordSx ⟨#[95]⟩], [(0, [])]⟩ := fun n =>
    npr_blank _ n 2 _ _ rfl
  have s4 : ∀ n, prun (bvT d w) (n + 1) ⟨3, [wordSx ⟨#[95]⟩], [(0, [])]⟩ = prun (bvT d w) n ⟨d.length + 5, [wordSx ⟨#[95]⟩, wordSx ⟨([98, 118] ++ d).toArray⟩], [(0, [])]⟩ := fun n => by
    have e : bvT d w = [40, 95, 32] ++ (([98, 118] ++ d) ++ ([32] ++ (w ++ [41]))) := by simp [bvT]
    have h := npr_word [40, 95, 32] ([98, 118] ++ d) ([32] ++ (w ++ [41])) (by simp) (fun b hb => by
      rcases List.mem_append.1 hb with hb | hb
      · rcases List.mem_cons.1 hb with rfl | hb
        · rfl
        · rw [List.mem_singleton] at hb; subst hb; rfl
      · exact hd b hb) (fun b hb => by cases hb; rfl) n [wordSx ⟨#[95]⟩] [(0, [])]
    rw [← e] at h
    have e2 : ([40, 95, 32] : List UInt8).length + ([98, 118] ++ d).length = d.length + 5 := by simp; omega
    rw [e2] at h
    exact h
  have s5 : ∀ n, prun (bvT d w) (n + 1) ⟨d.length + 5, [wordSx ⟨#[95]⟩, wordSx ⟨([98, 118] ++ d).toArray⟩], [(0, [])]⟩ = prun (bvT d w) n ⟨d.length + 6, [wordSx ⟨#[95]⟩, wordSx ⟨([98, 118] ++ d).toArray⟩], [(0, [])]⟩ := fun n =>
    npr_blank _ n (d.length + 5) _ _ (by
      have e : bvT d w = ([40, 95, 32, 98, 118] ++ d) ++ (32 :: (w ++ [41])) := by simp [bvT]
      rw [e, List.getElem?_append_right (by simp)]
      simp)
  have s6 : ∀ n, prun (bvT d w) (n + 1) ⟨d.length + 6, [wordSx ⟨#[95]⟩, wordSx ⟨([98, 118] ++ d).toArray⟩], [(0, [])]⟩ = prun (bvT d w) n ⟨d.length + w.length + 6, [wordSx ⟨#[95]⟩, wordSx ⟨([98, 118] ++ d).toArray⟩, wordSx ⟨w.toArray⟩], [(0, [])]⟩ := fun n => by
    have e : bvT d w = ([40, 95, 32, 98, 118] ++ d ++ [32]) ++ (w ++ [41]) := by simp [bvT]
    have h := npr_word ([40, 95, 32, 98, 118] ++ d ++ [32]) w [41] hwn hw (fun b hb => by cases hb; rfl) n [wordSx ⟨#[95]⟩, wordSx ⟨([98, 118] ++ d).toArray⟩] [(0, [])]
    rw [← e] at h
    have e2 : ([40, 95, 32, 98, 118] ++ d ++ [32] : List UInt8).length = d.length + 6 := by simp
    rw [e2, show d.length + 6 + w.length = d.length + w.length + 6 by omega] at h
    exact h
  have s7 : ∀ n, prun (bvT d w) (n + 1) ⟨d.length + w.length + 6, [wordSx ⟨#[95]⟩, wordSx ⟨([98, 118] ++ d).toArray⟩, wordSx ⟨w.toArray⟩], [(0, [])]⟩ = prun (bvT d w) n ⟨d.length + w.length + 7, [listSx [wordSx ⟨#[95]⟩, wordSx ⟨([98, 118] ++ d).toArray⟩, wordSx ⟨w.toArray⟩]], []⟩ := fun n => by
    have e : bvT d w = ([40, 95, 32, 98, 118] ++ d ++ [32] ++ w) ++ [41] := by simp [bvT]
    have hg : (bvT d w)[d.length + w.length + 6]? = some 41 := by
      have el : ([40, 95, 32, 98, 118] ++ d ++ [32] ++ w : List UInt8).length = d.length + w.length + 6 := by simp; omega
      rw [e, List.getElem?_append_right (by omega), el, Nat.sub_self]
      rfl
    show (match (bvT d w)[d.length + w.length + 6]? with | none => _ | some b => _) = _
    rw [hg]
    rfl
  obtain ⟨k, hk⟩ : ∃ k, d.length + w.length = k := ⟨_, rfl⟩
  have h7 : prun (bvT d w) (d.length + w.length + 7) ⟨0, [], []⟩ = .ok ⟨d.length + w.length + 7, [listSx [wordSx ⟨#[95]⟩, wordSx ⟨([98, 118] ++ d).toArray⟩, wordSx ⟨w.toArray⟩]], []⟩ := by
    rw [s1 (d.length + w.length + 6), s2 (d.length + w.length + 5), s3 (d.length + w.length + 4), s4 (d.length + w.length + 3), s5 (d.length + w.length + 2), s6 (d.length + w.length + 1), s7]
    have := npr_end (bvT d w) (d.length + w.length) [listSx [wordSx ⟨#[95]⟩, wordSx ⟨([98, 118] ++ d).toArray⟩, wordSx ⟨w.toArray⟩]] []
    rw [hlen] at this
    exact this
  rw [h7]
  rfl
def cnd (v : Bt) : Nd := { nd0 with op := 1, sort := v.w, w := v.w, lo := v.lo, hi := v.hi }
theorem term_bits (s : ByteArray) (v : Bt) (h : bvParse s.data.toList = some v) (G : Gr) : (termF [] (wordSx s) G).1 = (mk G (cnd v)).1 ∧ (termF [] (wordSx s) G).2.G = (mk G (cnd v)).2 := by
  have e : termF [] (wordSx s) G = constF v ⟨1, G⟩ := by
    show wordF [] (tmF [] 199) s [] 0 ⟨1, G⟩ = _
    unfold wordF
    rw [h]
  rw [e]
  exact ⟨rfl, rfl⟩
theorem term_num (u k : Nat) (hu : u < 1000000000) (h1 : 1 ≤ k) (h2 : k ≤ 128) (G : Gr) :
    (termF [] (listSx [wordSx ⟨#[95]⟩, wordSx ⟨([98, 118] ++ decDigits u).toArray⟩, wordSx ⟨(decDigits k).toArray⟩]) G).1 = (mk G (cnd ⟨k, u % 2 ^ k⟩)).1 ∧
    (termF [] (listSx [wordSx ⟨#[95]⟩, wordSx ⟨([98, 118] ++ decDigits u).toArray⟩, wordSx ⟨(decDigits k).toArray⟩]) G).2.G = (mk G (cnd ⟨k, u % 2 ^ k⟩)).2 := by
  have e : termF [] (listSx [wordSx ⟨#[95]⟩, wordSx ⟨([98, 118] ++ decDigits u).toArray⟩, wordSx ⟨(decDigits k).toArray⟩]) G = constF ⟨k, u % 2 ^ k⟩ ⟨1, G⟩ := by
    show bitsF [wordSx ⟨([98, 118] ++ decDigits u).toArray⟩, wordSx ⟨(decDigits k).toArray⟩] ⟨1, G⟩ = _
    unfold bitsF
    have e1 : (wordSx ⟨([98, 118] ++ decDigits u).toArray⟩).word.data.toList = [98, 118] ++ decDigits u := rfl
    have e2 : (wordSx ⟨(decDigits k).toArray⟩).word.data.toList = decDigits k := rfl
    simp only [e1, e2]
    rw [if_neg (by rintro (q | q); cases q; exact q rfl), show ([98, 118] ++ decDigits u : List UInt8).drop 2 = decDigits u from rfl, numO_dec (by omega) hu, show (if (wordSx ⟨(decDigits k).toArray⟩).list = true then none else numO 9 (decDigits k)) = some k by
      rw [if_neg (by simp [wordSx])]; exact numO_dec (by omega) (by omega)]
    simp only
    rw [if_neg (by omega)]
  rw [e]
  exact ⟨rfl, rfl⟩
theorem mk_const (G : Gr) (k n : Nat) (h1 : 1 ≤ k) (h2 : k ≤ 128) (hn : n < 2 ^ k) (hm : G.l.length < G.most) : (mk G (cnd ⟨k, n⟩)).1.2 = 0 ∧ (mk G (cnd ⟨k, n⟩)).2.most = G.most ∧ (mk G (cnd ⟨k, n⟩)).2.l.length ≤ G.l.length + 1 := by
  have hs : sortedV G.l (cnd ⟨k, n⟩) = (cnd ⟨k, n⟩, 0) := by
    unfold sortedV
    rw [if_pos (show (cnd ⟨k, n⟩).op = 1 from rfl), if_pos]
    refine ⟨?_, rfl, rfl, rfl⟩
    have e0 : (cnd ⟨k, n⟩).w = (k : Int) := rfl
    have e1 : (cnd ⟨k, n⟩).lo = ((n % 18446744073709551616 : Nat) : Int) := rfl
    have e2 : (cnd ⟨k, n⟩).hi = ((n / 18446744073709551616 : Nat) : Int) := rfl
    unfold rightV
    rw [e0, e1, e2, if_neg (by omega), Int.toNat_natCast]
    have : ((n % 18446744073709551616 : Nat) : Int) + ((n / 18446744073709551616 : Nat) : Int) * 18446744073709551616 < 2 ^ k := by
      have h3 : ((n % 18446744073709551616 : Nat) : Int) + ((n / 18446744073709551616 : Nat) : Int) * 18446744073709551616 = (n : Int) := by omega
      rw [h3]
      exact_mod_cast hn
    simp only [Bool.and_eq_true, decide_eq_true_eq]
    exact ⟨⟨by omega, by omega⟩, this⟩
  have hf : formedV G.l.length (cnd ⟨k, n⟩) = true := rfl
  unfold mk
  rw [if_neg (by rw [hf]; simp), hs, if_neg (by simp)]
  split
  · exact ⟨rfl, rfl, Nat.le_succ _⟩
  · rw [if_neg (by omega)]
    exact ⟨rfl, rfl, by simp⟩
/-- Four constants, two and two alike. -/
theorem four_same (k n d : Nat) (h1 : 1 ≤ k) (h2 : k ≤ 128) (hn : n < 2 ^ k) (hd : d < 16) : ∃ a c G1 G3, mk ⟨50, []⟩ (cnd ⟨k, n⟩) = ((a, 0), G1) ∧ mk G1 (cnd ⟨k, n⟩) = ((a, 0), G1) ∧ mk G1 (cnd ⟨4, d⟩) = ((c, 0), G3) ∧ mk G3 (cnd ⟨4, d⟩) = ((c, 0), G3) := by
  obtain ⟨x1, x2, x3⟩ := mk_const ⟨50, []⟩ k n h1 h2 hn (by decide)
  obtain ⟨⟨⟨a, e⟩, G1⟩, hk⟩ : ∃ R, mk ⟨50, []⟩ (cnd ⟨k, n⟩) = R := ⟨_, rfl⟩
  rw [hk] at x1 x2 x3
  simp only at x1 x2 x3
  subst x1
  have hA := mk_again (H := G1) (by rw [hk]) (by rw [hk]; exact Ext.refl _)
  rw [hk] at hA
  obtain ⟨y1, y2, y3⟩ := mk_const G1 4 d (by omega) (by omega) (by omega) (by rw [x2]; simp at x3; omega)
  obtain ⟨⟨⟨c, e⟩, G3⟩, hk3⟩ : ∃ R, mk G1 (cnd ⟨4, d⟩) = R := ⟨_, rfl⟩
  rw [hk3] at y1
  simp only at y1
  subst y1
  have hC := mk_again (H := G3) (by rw [hk3]) (by rw [hk3]; exact Ext.refl _)
  rw [hk3] at hC
  exact ⟨a, c, G1, G3, hk ▸ rfl, hA, hk3, hC⟩
end Go.Proofs.YthhnhbpmpdminaaGreatDoor
