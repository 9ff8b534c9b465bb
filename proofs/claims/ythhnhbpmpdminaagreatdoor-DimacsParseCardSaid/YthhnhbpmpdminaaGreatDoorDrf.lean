/-
The reference's reader (as printed) tells what the program's tells. Conditions: the text's length.
-/
import Derived.Test.YthhnhbpmpdminaaGreatDoorPdi
import Derived.Test.YthhnhbpmpdminaaGreatDoorDrd
namespace Go.Proofs.YthhnhbpmpdminaaGreatDoor
set_option maxRecDepth 4096
open Go.RowKit Go.Proofs.YthhnhbpmpdminaaGreatDoorW.PrintWords PDimacsParse

theorem w64 {n : Int} (h : -9223372036854775808 ≤ n ∧ n ≤ 9223372036854775807) : wrap64 n = n := by unfold wrap64; omega
theorem bt_of {s : ByteArray} {i : Nat} {b : UInt8} (h : s.data.toList[i]? = some b) : bt s (i : Int) = (b.toNat : Int) := by
  have hl := (List.getElem?_eq_some_iff.1 h).1
  have hs : i < s.size := by rw [Lib.size_eq]; exact hl
  have hb := byte_at s i hs
  rw [h] at hb
  have hb := Option.some.inj hb
  unfold bt
  rw [dif_pos (show ((i : Int)).toNat < s.size from hs), hb]
  rfl
theorem rd_of {l : List ByteArray} {j : Nat} {x : ByteArray} (h : l[j]? = some x) : rdOf ByteArray.empty l (j : Int) = x := by
  unfold rdOf
  rw [show ((j : Int)).toNat = j from rfl]
  simp [List.getD, h]
theorem one_of {s : ByteArray} {i : Nat} {b : UInt8} (h : s.data.toList[i]? = some b) : (s.extract i (i + 1)).data.toList = [b] := by
  have hl := (List.getElem?_eq_some_iff.1 h).1
  rw [Lib.extract_data, List.drop_eq_getElem_cons hl, (List.getElem?_eq_some_iff.1 h).2, Nat.add_sub_cancel_left]
  rfl
theorem drop_of {l : List UInt8} {i : Nat} {b : UInt8} (h : l[i]? = some b) : l.drop i = b :: l.drop (i + 1) := by
  have hl := (List.getElem?_eq_some_iff.1 h).1
  rw [List.drop_eq_getElem_cons hl, (List.getElem?_eq_some_iff.1 h).2]
theorem datas_snoc (a : List ByteArray) (x : ByteArray) : datas (a ++ [x]) = datas a ++ [x.data.toList] := by simp [datas]
theorem app_data (a b : ByteArray) : (a ++ b).data.toList = a.data.toList ++ b.data.toList := by simp
theorem toList_nil (x : ByteArray) : x.toList = ([] : List UInt8) ↔ x.data.toList = [] := by rw [Lib.toList_data]
/-- words -/
theorem w_l0 (x0 : ByteArray) (hx : x0.size ≤ 1000000) : ∀ (n k : Nat) (acc : List ByteArray) (cur : ByteArray) (i : Nat), i + n = x0.size → 2 * n + 4 ≤ k → acc.length + n ≤ 10000000 → cur.size ≤ i →
    ∃ r, plaitref19_words.l0 k x0 acc cur (i : Int) = some r ∧ datas r = datas acc ++ wl cur.data.toList (x0.data.toList.drop i) := by
  intro n
  induction n with
  | zero =>
    intro k acc cur i hi hk ha hc
    obtain ⟨k, rfl⟩ : ∃ j, k = j + 1 + 1 + 1 := ⟨k - 3, by omega⟩
    have hd : x0.data.toList.drop i = [] := List.drop_eq_nil_of_le (by rw [← Lib.size_eq]; omega)
    have hw : wrap64 ((i : Int) + 1) = ((i + 1 : Nat) : Int) := w64 (by omega)
    rw [plaitref19_words.l0, if_pos (by omega), if_neg (by omega), plaitref19_words.j1, if_neg (by simp), hw, hd, wl_nil_end]
    by_cases hc0 : cur.data.toList = []
    · rw [if_pos ((toList_nil cur).2 hc0), plaitref19_words.l0, if_neg (by omega), if_pos hc0]
      exact ⟨acc, rfl, by simp⟩
    · rw [if_neg (fun q => hc0 ((toList_nil cur).1 q)), if_pos (by omega), plaitref19_words.l0, if_neg (by omega), if_neg hc0]
      exact ⟨_, rfl, datas_snoc _ _⟩
  | succ n ih =>
    intro k acc cur i hi hk ha hc
    obtain ⟨k, rfl⟩ : ∃ j, k = j + 1 + 1 := ⟨k - 2, by omega⟩
    have hb := byte_at x0 i (by omega)
    generalize x0[i]'_ = b at hb
    have hw : wrap64 ((i : Int) + 1) = ((i + 1 : Nat) : Int) := w64 (by omega)
    rw [plaitref19_words.l0, if_pos (by omega), if_pos (by omega), if_pos (by omega), plaitref19_words.j1, bt_of hb, hw, drop_of hb]
    by_cases h32 : b = 32
    · subst h32
      rw [if_neg (by decide)]
      show ∃ r, _ ∧ _ = datas acc ++ (if (32 : UInt8) = 32 then (if cur.data.toList = [] then wl [] _ else cur.data.toList :: wl [] _) else _)
      rw [if_pos rfl]
      by_cases hc0 : cur.data.toList = []
      · rw [if_pos ((toList_nil cur).2 hc0), if_pos hc0]
        exact ih k acc ⟨#[]⟩ (i + 1) (by omega) (by omega) (by omega) (by simp [ByteArray.size])
      · rw [if_neg (fun q => hc0 ((toList_nil cur).1 q)), if_pos (by omega), if_neg hc0]
        obtain ⟨r, e1, e2⟩ := ih k (acc ++ [cur]) ⟨#[]⟩ (i + 1) (by omega) (by omega) (by simp; omega) (by simp [ByteArray.size])
        refine ⟨r, e1, ?_⟩
        rw [e2, datas_snoc]
        simp
    · have hne : ((b.toNat : Int) != 32) = true := by
        rw [bne_iff_ne]
        intro q
        exact h32 (UInt8.toNat_inj.1 (by have : b.toNat = 32 := by omega
                                         rw [this]; rfl))
      have h1 := one_of hb
      have hz : (x0.extract i (i + 1)).size = 1 := by rw [Lib.size_eq, h1]; rfl
      rw [if_pos hne, if_pos (by omega), if_pos (by omega), if_pos (by omega)]
      rw [show ((i : Int)).toNat = i from rfl, show (((i + 1 : Nat) : Int)).toNat = i + 1 from rfl, if_pos (by omega)]
      show ∃ r, _ ∧ _ = datas acc ++ (if b = 32 then _ else wl (cur.data.toList ++ [b]) _)
      rw [if_neg h32]
      obtain ⟨r, e1, e2⟩ := ih k acc (cur ++ x0.extract i (i + 1)) (i + 1) (by omega) (by omega) (by omega) (by simp [ByteArray.size_append]; omega)
      refine ⟨r, e1, ?_⟩
      rw [e2, app_data, h1]
theorem words_f (x0 : ByteArray) (hx : x0.size ≤ 1000000) (k : Nat) (hk : 2 * x0.size + 4 ≤ k) : ∃ r, plaitref19_words.f k x0 = some r ∧ datas r = wl [] x0.data.toList := by
  obtain ⟨r, e1, e2⟩ := w_l0 x0 hx x0.size k [] ⟨#[]⟩ 0 (by omega) hk (by simp; omega) (by simp [ByteArray.size])
  exact ⟨r, e1, by rw [e2]; simp [datas]⟩
/-- number -/
def numR (o : Option Nat) : Int × Bool := match o with
  | some n => ((n : Int), true)
  | none => (0, false)
theorem n_l0 (x0 : ByteArray) : ∀ (m k n p : Nat), p + m = x0.size → m + 1 ≤ k → n < 10 ^ p → p + m ≤ 9 →
    plaitref19_number.l0 k x0 (n : Int) (p : Int) = some (numR (Lib.decFrom n (x0.data.toList.drop p))) := by
  intro m
  induction m with
  | zero =>
    intro k n p hp hk hn h9
    obtain ⟨k, rfl⟩ : ∃ j, k = j + 1 := ⟨k - 1, by omega⟩
    have hd : x0.data.toList.drop p = [] := List.drop_eq_nil_of_le (by rw [← Lib.size_eq]; omega)
    rw [plaitref19_number.l0, if_neg (by omega), hd]
    rfl
  | succ m ih =>
    intro k n p hp hk hn h9
    obtain ⟨k, rfl⟩ : ∃ j, k = j + 1 := ⟨k - 1, by omega⟩
    have hb := byte_at x0 p (by omega)
    generalize x0[p]'_ = b at hb
    have hp9 : n < 10 ^ 9 := Nat.lt_of_lt_of_le hn (Nat.pow_le_pow_right (by omega) (by omega))
    rw [show (10 : Nat) ^ 9 = 1000000000 from rfl] at hp9
    have hbl : b.toNat < 256 := UInt8.toNat_lt b
    have f1 : p + 1 + m = x0.size := by omega
    have f2 : m + 1 ≤ k := by omega
    have f3 : p + 1 + m ≤ 9 := by omega
    rw [plaitref19_number.l0, if_pos (by omega), if_pos (by omega), bt_of hb, drop_of hb]
    show _ = some (numR (match Lib.digitVal b with | some d => Lib.decFrom (n * 10 + d) _ | none => none))
    unfold Lib.digitVal
    by_cases h1 : (b.toNat : Int) < 48
    · rw [if_pos h1, if_neg (by omega)]; rfl
    · rw [if_neg h1]
      by_cases h2 : (b.toNat : Int) > 57
      · rw [if_pos h2, if_neg (by omega)]; rfl
      · rw [if_neg h2, if_pos (by omega)]
        have e1 : wrap64 (10 * (n : Int)) = 10 * (n : Int) := w64 (by omega)
        have e2 : ((b.toNat : Int) - 48) % 256 = ((b.toNat - 48 : Nat) : Int) := by omega
        have e3 : wrap64 (10 * (n : Int) + ((b.toNat - 48 : Nat) : Int)) = ((n * 10 + (b.toNat - 48) : Nat) : Int) := by rw [w64 (by omega)]; omega
        have e4 : wrap64 ((p : Int) + 1) = ((p + 1 : Nat) : Int) := w64 (by omega)
        rw [e1, e2, e3, e4]
        clear e1 e2 e3 e4
        refine ih k _ (p + 1) f1 f2 ?_ f3
        clear f1 f2 f3 ih hk hp h9 hp9 hb
        have f4 : n * 10 + (b.toNat - 48) < 10 ^ p * 10 := by
          generalize 10 ^ p = q at hn ⊢
          omega
        exact f4
theorem number_f (x0 : ByteArray) (k : Nat) (hk : 12 ≤ k) : plaitref19_number.f k x0 = some (numR (numD x0.data.toList)) := by
  have hl := Lib.size_eq x0
  obtain ⟨k, rfl⟩ : ∃ j, k = j + 1 := ⟨k - 1, by omega⟩
  have hbad : ∀ (h : numD x0.data.toList = none), plaitref19_number.j0 (k + 1) x0 true = some (numR (numD x0.data.toList)) := fun h => by
    rw [h, plaitref19_number.j0, if_pos rfl]; rfl
  have hgood : x0.data.toList ≠ [] → x0.size ≤ 9 → ¬ (1 < x0.data.toList.length ∧ x0.data.toList[0]? = some 48) → plaitref19_number.j0 (k + 1) x0 false = some (numR (numD x0.data.toList)) := fun h0 h h2 => by
    rw [plaitref19_number.j0, if_neg (by simp)]
    have := n_l0 x0 x0.size k 0 0 (by omega) (by omega) (by simp) (by omega)
    rw [show ((0 : Nat) : Int) = 0 from rfl] at this
    rw [this]
    unfold numD
    rw [if_pos ⟨by omega, h2⟩]
    unfold Lib.decNat
    rw [if_neg (by simpa using h0)]
    rfl
  unfold plaitref19_number.f
  by_cases h0 : x0.size = 0
  · rw [if_pos (by omega)]
    refine hbad ?_
    have : x0.data.toList = [] := List.eq_nil_of_length_eq_zero (by omega)
    rw [this]; rfl
  · have hne : x0.data.toList ≠ [] := fun q => h0 (by rw [hl, q]; rfl)
    rw [if_neg (by omega)]
    by_cases h9 : x0.size ≤ 9
    · rw [if_neg (by omega)]
      by_cases h1 : 1 < x0.size
      · rw [if_pos (by omega), if_pos (by omega)]
        have hb := byte_at x0 0 (by omega)
        generalize x0[0]'_ = b at hb
        have hbt : bt x0 0 = (b.toNat : Int) := bt_of (i := 0) hb
        rw [hbt]
        by_cases h48 : b = 48
        · subst h48
          refine hbad ?_
          unfold numD
          rw [if_neg]
          rintro ⟨_, q⟩
          exact q ⟨by omega, hb⟩
        · have : ((b.toNat : Int) == 48) = false := by
            rw [beq_eq_false_iff_ne]
            intro q
            exact h48 (UInt8.toNat_inj.1 (by have : b.toNat = 48 := by omega
                                             rw [this]; rfl))
          rw [this]
          exact hgood hne h9 (fun q => h48 (Option.some.inj (hb.symm.trans q.2)))
      · rw [if_neg (by omega)]
        exact hgood hne h9 (fun q => by omega)
    · rw [if_pos (by omega)]
      refine hbad ?_
      unfold numD
      rw [if_neg (by omega)]
/-- lines -/
theorem ll_last (cur : List UInt8) : ll cur [] = [cur] := rfl
theorem s_l0 (x0 : ByteArray) (hx : x0.size ≤ 1000000) : ∀ (n k : Nat) (acc : List ByteArray) (a i : Nat), i + n = x0.size → n + 2 ≤ k → a ≤ i → acc.length + n ≤ 10000000 →
    ∃ r, plaitref19_lines.l0 k x0 acc (a : Int) (i : Int) = some r ∧ datas r = datas acc ++ ll ((x0.data.toList.drop a).take (i - a)) (x0.data.toList.drop i) := by
  intro n
  induction n with
  | zero =>
    intro k acc a i hi hk ha hc
    obtain ⟨k, rfl⟩ : ∃ j, k = j + 1 + 1 := ⟨k - 2, by omega⟩
    have hd : x0.data.toList.drop i = [] := List.drop_eq_nil_of_le (by rw [← Lib.size_eq]; omega)
    have hw : wrap64 ((i : Int) + 1) = ((i + 1 : Nat) : Int) := w64 (by omega)
    rw [plaitref19_lines.l0, if_pos (by omega), if_pos (by omega), if_pos (by omega), if_pos (by omega), if_pos (by omega), hw, hd, ll_last, plaitref19_lines.l0, if_neg (by omega)]
    exact ⟨_, rfl, by rw [datas_snoc, Lib.extract_data]; rfl⟩
  | succ n ih =>
    intro k acc a i hi hk ha hc
    obtain ⟨k, rfl⟩ : ∃ j, k = j + 1 := ⟨k - 1, by omega⟩
    have hb := byte_at x0 i (by omega)
    generalize x0[i]'_ = b at hb
    have hw : wrap64 ((i : Int) + 1) = ((i + 1 : Nat) : Int) := w64 (by omega)
    rw [plaitref19_lines.l0, if_pos (by omega), if_neg (by omega), if_pos (by omega), if_pos (by omega), bt_of hb, hw, drop_of hb]
    by_cases h10 : b = 10
    · subst h10
      rw [if_pos (by decide), if_pos (by omega), if_pos (by omega), if_pos (by omega)]
      obtain ⟨r, e1, e2⟩ := ih k (acc ++ [x0.extract a i]) (i + 1) (i + 1) (by omega) (by omega) (by omega) (by simp; omega)
      refine ⟨r, e1, ?_⟩
      show _ = datas acc ++ (if (10 : UInt8) = 10 then _ :: ll [] _ else _)
      rw [if_pos rfl, e2, datas_snoc, Lib.extract_data]
      simp
    · have hne : ¬ (b.toNat : Int) = 10 := by
        intro q
        exact h10 (UInt8.toNat_inj.1 (by have : b.toNat = 10 := by omega
                                         rw [this]; rfl))
      rw [if_neg hne]
      obtain ⟨r, e1, e2⟩ := ih k acc a (i + 1) (by omega) (by omega) (by omega) (by omega)
      refine ⟨r, e1, ?_⟩
      show _ = datas acc ++ (if b = 10 then _ else ll (_ ++ [b]) _)
      rw [if_neg h10, e2]
      congr 2
      rw [show i + 1 - a = (i - a) + 1 by omega]
      have : (x0.data.toList.drop a)[i - a]? = some b := by
        rw [List.getElem?_drop, show a + (i - a) = i by omega]; exact hb
      rw [List.take_add_one, this]
      rfl
theorem lines_f (x0 : ByteArray) (hx : x0.size ≤ 1000000) (k : Nat) (hk : x0.size + 2 ≤ k) : ∃ r, plaitref19_lines.f k x0 = some r ∧ datas r = ll [] x0.data.toList := by
  obtain ⟨r, e1, e2⟩ := s_l0 x0 hx x0.size k [] 0 0 (by omega) hk (by omega) (by simp; omega)
  exact ⟨r, e1, by rw [e2]; simp [datas]⟩
end Go.Proofs.YthhnhbpmpdminaaGreatDoor
