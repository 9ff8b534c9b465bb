/-
The text of clauses, in plain words; and that it is read again as it was. Conditions: how many clauses and numbers there are.
-/
import Derived.Lib.ItoaNum
import Derived.Test.YthhnhbpmpdminaaGreatDoorDrgs
namespace Go.Proofs.YthhnhbpmpdminaaGreatDoor
open Go.Lib

def okN (n : Int) : Prop := n ≠ 0 ∧ n ≤ 65536 ∧ -65536 ≤ n
def okC (c : List Int) : Prop := ∀ n ∈ c, okN n
def okL (l : List (List Int)) : Prop := ∀ c ∈ l, okC c
def mostF (m n : Int) : Int := max (max m n) (-n)
def mostC (m : Int) (c : List Int) : Int := c.foldl mostF m
def mostL (l : List (List Int)) : Int := l.foldl mostC 0
def numT (n : Int) : List UInt8 := itoa n ++ [32]
def clT (c : List Int) : List UInt8 := c.flatMap numT ++ [48, 10]
def headT (l : List (List Int)) : List UInt8 := [112, 32, 99, 110, 102, 32] ++ itoa (mostL l) ++ [32] ++ itoa l.length ++ [10]
def prT (l : List (List Int)) : List UInt8 := headT l ++ l.flatMap clT
def bulk (l : List (List Int)) : Nat := l.length + (l.map List.length).sum

theorem decDigits_lt {u : Nat} (h : u < 10) : decDigits u = [UInt8.ofNat (48 + u)] := by rw [decDigits, dif_pos h]
theorem decDigits_ge {u : Nat} (h : ¬ u < 10) : decDigits u = decDigits (u / 10) ++ [UInt8.ofNat (48 + u % 10)] := by rw [decDigits, dif_neg h]
theorem digit_val {d : Nat} (h : d < 10) : Lib.digitVal (UInt8.ofNat (48 + d)) = some d := by
  have e : (UInt8.ofNat (48 + d)).toNat = 48 + d := by rw [UInt8.toNat_ofNat']; omega
  unfold Lib.digitVal
  rw [e, if_pos (by omega)]
  congr 1; omega
theorem dec_from : ∀ (k u : Nat), u < 10 ^ (k + 1) → Lib.decFrom 0 (decDigits u) = some u ∧ decDigits u ≠ [] ∧ (decDigits u).length ≤ k + 1 ∧ (1 < (decDigits u).length → (decDigits u)[0]? ≠ some 48) ∧ (0 < u → (decDigits u)[0]? ≠ some 48) ∧ ∀ b ∈ decDigits u, 48 ≤ b.toNat ∧ b.toNat ≤ 57 := by
  intro k
  induction k with
  | zero =>
    intro u hu
    have hu : u < 10 := by simpa using hu
    rw [decDigits_lt hu]
    have e : (UInt8.ofNat (48 + u)).toNat = 48 + u := by rw [UInt8.toNat_ofNat']; omega
    refine ⟨?_, by simp, by simp, fun h => by simp at h, fun h => ?_, fun b hb => ?_⟩
    · show (match Lib.digitVal (UInt8.ofNat (48 + u)) with | some d => Lib.decFrom (0 * 10 + d) [] | none => none) = _
      rw [digit_val hu]
      show some (0 * 10 + u) = some u
      rw [Nat.zero_mul, Nat.zero_add]
    · intro q
      have q : UInt8.ofNat (48 + u) = 48 := by simpa using q
      rw [q] at e
      have : (48 : UInt8).toNat = 48 := rfl
      omega
    · rw [List.mem_singleton] at hb
      subst hb
      omega
  | succ k ih =>
    intro u hu
    by_cases h10 : u < 10
    · obtain ⟨h1, h2, h3, h4, h5, h6⟩ := ih u (Nat.lt_of_lt_of_le h10 (by rw [Nat.pow_succ]; have := Nat.pow_pos (n := k) (show 0 < 10 by omega); omega))
      exact ⟨h1, h2, by omega, h4, h5, h6⟩
    · have hq : u / 10 < 10 ^ (k + 1) := by rw [Nat.pow_succ] at hu; omega
      obtain ⟨h1, h2, h3, h4, h5, h6⟩ := ih (u / 10) hq
      have hm : u % 10 < 10 := Nat.mod_lt _ (by omega)
      have e : (UInt8.ofNat (48 + u % 10)).toNat = 48 + u % 10 := by rw [UInt8.toNat_ofNat']; omega
      rw [decDigits_ge h10]
      have h0 : (decDigits (u / 10) ++ [UInt8.ofNat (48 + u % 10)])[0]? = (decDigits (u / 10))[0]? := by
        cases hd : decDigits (u / 10) with
        | nil => exact absurd hd h2
        | cons a r => rfl
      refine ⟨?_, by simp, by simp; omega, fun _ => ?_, fun _ => ?_, fun b hb => ?_⟩
      · rw [decFrom_snoc, h1, digit_val hm]
        show some (u / 10 * 10 + u % 10) = some u
        congr 1; omega
      · rw [h0]; exact h5 (by omega)
      · rw [h0]; exact h5 (by omega)
      · rcases List.mem_append.1 hb with hb | hb
        · exact h6 b hb
        · rw [List.mem_singleton] at hb
          subst hb
          omega
theorem numD_dec {u : Nat} (h : u < 1000000000) : numD (decDigits u) = some u := by
  obtain ⟨h1, h2, h3, h4, _, _⟩ := dec_from 8 u h
  unfold numD
  rw [if_pos ⟨h3, fun q => h4 q.1 q.2⟩]
  unfold Lib.decNat
  rw [if_neg (by simpa using h2)]
  exact h1
/-- The bytes of a numeral: none is a blank or a line's end; it isn't empty. -/
theorem itoa_bytes {n : Int} (h : -1000000000 < n ∧ n < 1000000000) : itoa n ≠ [] ∧ (itoa n).length ≤ 10 ∧ ∀ b ∈ itoa n, b ≠ 32 ∧ b ≠ 10 ∧ b ≠ 99 := by
  have key : ∀ u < 1000000000, ∀ b ∈ decDigits u, b ≠ 32 ∧ b ≠ 10 ∧ b ≠ 99 := by
    intro u hu b hb
    have := (dec_from 8 u hu).2.2.2.2.2 b hb
    refine ⟨?_, ?_, ?_⟩ <;> (rintro rfl; revert this; decide)
  unfold itoa
  by_cases hn : n < 0
  · rw [if_pos hn]
    have hu : n.natAbs < 1000000000 := by omega
    refine ⟨by simp, by have := (dec_from 8 _ hu).2.2.1; simp; omega, fun b hb => ?_⟩
    rcases List.mem_cons.1 hb with rfl | hb
    · decide
    · exact key _ hu b hb
  · rw [if_neg hn]
    have hu : n.toNat < 1000000000 := by omega
    exact ⟨(dec_from 8 _ hu).2.1, by have := (dec_from 8 _ hu).2.2.1; omega, key _ hu⟩
theorem zero_num (st : PS) (h : st.out.length ≠ st.c) : numberS st [48] = some { st with out := st.out ++ [st.now], now := [], half := false } := by
  unfold numberS
  rw [if_neg h]
  have e1 : Lib.trimPrefix [48] [45] = [48] := by decide
  have e2 : Lib.hasPrefix [48] [45] = false := by decide
  have e3 : numD [48] = some 0 := by decide
  rw [e1, e2, e3]
  show (if st.v < 0 ∨ (false = true ∧ 0 = 0) then none else if (0 : Nat) = 0 then _ else _) = _
  rw [if_neg (by rintro (q | q); omega; cases q.1), if_pos rfl]
theorem num_num (st : PS) (n : Int) (hn : okN n) (hv : n.natAbs ≤ st.v) (h : st.out.length ≠ st.c) : numberS st (itoa n) = some { st with now := st.now ++ [n], half := true } := by
  obtain ⟨h0, h1, h2⟩ := hn
  have hu : n.natAbs < 1000000000 := by omega
  have hd := numD_dec hu
  unfold numberS
  rw [if_neg h]
  unfold itoa
  by_cases hneg : n < 0
  · rw [if_pos hneg]
    have e1 : Lib.trimPrefix (45 :: decDigits n.natAbs) [45] = decDigits n.natAbs := by
      unfold Lib.trimPrefix Lib.hasPrefix
      simp [List.isPrefixOf]
    have e2 : Lib.hasPrefix (45 :: decDigits n.natAbs) [45] = true := by simp [Lib.hasPrefix, List.isPrefixOf]
    rw [e1, e2, hd]
    simp only
    rw [if_neg (by rintro (q | q) <;> omega), if_neg (by omega)]
    simp only [if_true]
    rw [show -(n.natAbs : Int) = n by omega]
  · rw [if_neg hneg]
    have hb := (dec_from 8 _ (show n.toNat < 10 ^ 9 by omega)).2.2.2.2.2
    have hne := (dec_from 8 _ (show n.toNat < 10 ^ 9 by omega)).2.1
    have e2 : Lib.hasPrefix (decDigits n.toNat) [45] = false := by
      cases hd2 : decDigits n.toNat with
      | nil => exact absurd hd2 hne
      | cons a r =>
        rw [hd2] at hb
        have := hb a (by simp)
        show ([45].isPrefixOf (a :: r)) = false
        simp only [List.isPrefixOf, Bool.and_true, beq_eq_false_iff_ne]
        rintro rfl
        revert this; decide
    have e1 : Lib.trimPrefix (decDigits n.toNat) [45] = decDigits n.toNat := by unfold Lib.trimPrefix; rw [e2]; rfl
    rw [e1, e2, numD_dec (show n.toNat < 1000000000 by omega)]
    simp only
    rw [if_neg (by rintro (q | q); omega; cases q.1), if_neg (by omega)]
    simp only [Bool.false_eq_true, if_false]
    rw [show (n.toNat : Int) = n by omega]
theorem nums_clause (c : List Int) : ∀ (st : PS), okC c → (∀ n ∈ c, n.natAbs ≤ st.v) → st.out.length ≠ st.c → numsS st (c.map itoa ++ [[48]]) = some { st with out := st.out ++ [st.now ++ c], now := [], half := false } := by
  induction c with
  | nil =>
    intro st _ _ h
    show (match numberS st [48] with | some st' => numsS st' [] | none => none) = _
    rw [zero_num st h]
    simp [numsS]
  | cons n c ih =>
    intro st hok hv h
    show (match numberS st (itoa n) with | some st' => numsS st' (c.map itoa ++ [[48]]) | none => none) = _
    rw [num_num st n (hok n (by simp)) (hv n (by simp)) h]
    have := ih { st with now := st.now ++ [n], half := true } (fun x hx => hok x (by simp [hx])) (fun x hx => hv x (by simp [hx])) h
    simp only [this, List.append_assoc]
    rfl
theorem ll_take : ∀ (x cur r : List UInt8), (∀ b ∈ x, b ≠ 10) → ll cur (x ++ 10 :: r) = (cur ++ x) :: ll [] r
  | [], cur, r, _ => by
    show (if (10 : UInt8) = 10 then cur :: ll [] r else _) = _
    rw [if_pos rfl, List.append_nil]
  | b :: x, cur, r, h => by
    show (if b = 10 then _ else ll (cur ++ [b]) (x ++ 10 :: r)) = _
    rw [if_neg (h b (by simp)), ll_take x _ r (fun y hy => h y (by simp [hy])), List.append_assoc]
    rfl
theorem wl_take (x r : List UInt8) (h : ∀ b ∈ x, b ≠ 32) (hx : x ≠ []) : wl [] (x ++ 32 :: r) = x :: wl [] r := by
  rw [wl_skip x [] _ h]
  show (if (32 : UInt8) = 32 then (if [] ++ x = [] then wl [] r else ([] ++ x) :: wl [] r) else _) = _
  rw [if_pos rfl, List.nil_append, if_neg hx]
theorem wl_last (x : List UInt8) (h : ∀ b ∈ x, b ≠ 32) (hx : x ≠ []) : wl [] x = [x] := by
  have := wl_skip x [] [] h
  rw [List.append_nil, List.nil_append, wl_nil_end, if_neg hx] at this
  exact this
def clN (c : List Int) : List UInt8 := c.flatMap numT ++ [48]
theorem okN_rng {n : Int} (h : okN n) : -1000000000 < n ∧ n < 1000000000 := by obtain ⟨_, h1, h2⟩ := h; omega
theorem wl_clause : ∀ (c : List Int), okC c → wl [] (clN c) = c.map itoa ++ [[48]]
  | [], _ => rfl
  | n :: c, h => by
    have hb := itoa_bytes (okN_rng (h n (by simp)))
    have e : clN (n :: c) = itoa n ++ 32 :: clN c := by simp [clN, numT]
    rw [e, wl_take _ _ (fun b q => (hb.2.2 b q).1) hb.1, wl_clause c (fun x hx => h x (by simp [hx]))]
    rfl
theorem clN_no10 (c : List Int) (h : okC c) : ∀ b ∈ clN c, b ≠ 10 := by
  intro b hb
  unfold clN at hb
  rcases List.mem_append.1 hb with hb | hb
  · obtain ⟨n, hn, hb⟩ := List.mem_flatMap.1 hb
    rcases List.mem_append.1 hb with hb | hb
    · exact ((itoa_bytes (okN_rng (h n hn))).2.2 b hb).2.1
    · rw [List.mem_singleton] at hb; subst hb; decide
  · rw [List.mem_singleton] at hb; subst hb; decide
theorem clT_clN (c : List Int) : clT c = clN c ++ [10] := by simp [clT, clN]
theorem ll_clauses : ∀ (l : List (List Int)), okL l → ll [] (l.flatMap clT) = l.map clN ++ [[]]
  | [], _ => rfl
  | c :: l, h => by
    rw [List.flatMap_cons, clT_clN, List.append_assoc]
    show ll [] (clN c ++ 10 :: l.flatMap clT) = _
    rw [ll_take _ _ _ (clN_no10 c (h c (by simp))), ll_clauses l (fun x hx => h x (by simp [hx]))]
    rfl
theorem line_clause (c : List Int) (st : PS) (hb : st.begun = true) (h : okC c) (hv : ∀ n ∈ c, n.natAbs ≤ st.v) (hc : st.out.length ≠ st.c) : lineS st (wl [] (clN c)) = some { st with out := st.out ++ [st.now ++ c], now := [], half := false } := by
  rw [wl_clause c h]
  have h1 := nums_clause c st h hv hc
  cases c with
  | nil =>
    show (if ([48] : List UInt8) = [99] then some st else if st.begun = true then numsS st [[48]] else headS st [[48]]) = _
    rw [if_neg (by decide), if_pos hb]
    exact h1
  | cons n c =>
    show (if itoa n = [99] then some st else if st.begun = true then numsS st (itoa n :: (c.map itoa ++ [[48]])) else _) = _
    have hby := itoa_bytes (okN_rng (h n (by simp)))
    rw [if_neg (fun q => by rw [q] at hby; exact (hby.2.2 99 (by simp)).2.2 rfl), if_pos hb]
    exact h1
theorem lines_clauses (v c : Nat) : ∀ (l : List (List Int)) (i : Nat) (out : List (List Int)), okL l → (∀ x ∈ l, ∀ n ∈ x, n.natAbs ≤ v) → out.length + l.length ≤ c →
    linesS i ⟨true, v, c, out, [], false⟩ (l.map clN ++ [[]]) = .good ⟨true, v, c, out ++ l, [], false⟩
  | [], i, out, _, _, _ => by
    show (match lineS _ (wl [] []) with | some st' => linesS (i + 1) st' [] | none => RR.bad i) = _
    rw [wl_nil_end, if_pos rfl]
    simp [lineS, linesS]
  | x :: l, i, out, h, hv, hc => by
    show (match lineS _ (wl [] (clN x)) with | some st' => linesS (i + 1) st' (l.map clN ++ [[]]) | none => RR.bad i) = _
    rw [line_clause x ⟨true, v, c, out, [], false⟩ rfl (h x (by simp)) (hv x (by simp)) (by simp at hc; show out.length ≠ c; omega)]
    have := lines_clauses v c l (i + 1) (out ++ [x]) (fun y hy => h y (by simp [hy])) (fun y hy => hv y (by simp [hy])) (by simp at hc ⊢; omega)
    simpa using this
theorem mostC_ge (c : List Int) : ∀ m, m ≤ mostC m c ∧ ∀ n ∈ c, n ≤ mostC m c ∧ -n ≤ mostC m c := by
  induction c with
  | nil => intro m; exact ⟨by simp [mostC], fun n h => by cases h⟩
  | cons a c ih =>
    intro m
    have h := ih (mostF m a)
    have e : mostC m (a :: c) = mostC (mostF m a) c := rfl
    have h1 : m ≤ mostF m a ∧ a ≤ mostF m a ∧ -a ≤ mostF m a := by unfold mostF; omega
    rw [e]
    refine ⟨by omega, fun n hn => ?_⟩
    rcases List.mem_cons.1 hn with rfl | hn
    · omega
    · exact h.2 n hn
theorem mostC_le (c : List Int) : ∀ m, 0 ≤ m → m ≤ 65536 → okC c → 0 ≤ mostC m c ∧ mostC m c ≤ 65536 := by
  induction c with
  | nil => intro m h0 h1 _; exact ⟨h0, h1⟩
  | cons a c ih =>
    intro m h0 h1 h
    obtain ⟨_, h2, h3⟩ := h a (by simp)
    exact ih (mostF m a) (by unfold mostF; omega) (by unfold mostF; omega) (fun x hx => h x (by simp [hx]))
theorem mostA_ge (l : List (List Int)) : ∀ m, m ≤ l.foldl mostC m ∧ ∀ c ∈ l, ∀ n ∈ c, n ≤ l.foldl mostC m ∧ -n ≤ l.foldl mostC m := by
  induction l with
  | nil => intro m; exact ⟨by simp, fun c h => by cases h⟩
  | cons a l ih =>
    intro m
    have h := ih (mostC m a)
    have h1 := mostC_ge a m
    rw [List.foldl_cons]
    refine ⟨by omega, fun c hc n hn => ?_⟩
    rcases List.mem_cons.1 hc with rfl | hc
    · have := h1.2 n hn; omega
    · exact h.2 c hc n hn
theorem mostA_le (l : List (List Int)) : ∀ m, 0 ≤ m → m ≤ 65536 → okL l → 0 ≤ l.foldl mostC m ∧ l.foldl mostC m ≤ 65536 := by
  induction l with
  | nil => intro m h0 h1 _; exact ⟨h0, h1⟩
  | cons a l ih =>
    intro m h0 h1 h
    have := mostC_le a m h0 h1 (h a (by simp))
    exact ih _ this.1 this.2 (fun x hx => h x (by simp [hx]))
def headN (l : List (List Int)) : List UInt8 := [112] ++ 32 :: ([99, 110, 102] ++ 32 :: (itoa (mostL l) ++ 32 :: itoa l.length))
theorem headT_headN (l : List (List Int)) : headT l = headN l ++ [10] := by simp [headT, headN]
theorem head_line (l : List (List Int)) (h : okL l) (hl : l.length ≤ 100000000) : lineS PS.init (wl [] (headN l)) = some ⟨true, (mostL l).toNat, l.length, [], [], false⟩ ∧ ∀ b ∈ headN l, b ≠ 10 := by
  have hm := mostA_le l 0 (by omega) (by omega) h
  have b1 := itoa_bytes (n := mostL l) (by unfold mostL; omega)
  have b2 := itoa_bytes (n := (l.length : Int)) (by omega)
  have i1 : itoa (mostL l) = decDigits (mostL l).toNat := by unfold itoa; rw [if_neg (by unfold mostL; omega)]
  have i2 : itoa (l.length : Int) = decDigits l.length := by unfold itoa; rw [if_neg (by omega)]; rfl
  refine ⟨?_, fun b hb => ?_⟩
  · unfold headN
    rw [wl_take _ _ (by decide) (by decide), wl_take _ _ (by decide) (by decide), wl_take _ _ (fun b q => (b1.2.2 b q).1) b1.1, wl_last _ (fun b q => (b2.2.2 b q).1) b2.1]
    show (if ([112] : List UInt8) = [99] then some PS.init else if false = true then numsS PS.init [[112], [99, 110, 102], itoa (mostL l), itoa l.length] else headS PS.init [[112], [99, 110, 102], itoa (mostL l), itoa l.length]) = _
    rw [if_neg (by decide), if_neg (by decide)]
    show (if ([112] : List UInt8) = [112] then if ([99, 110, 102] : List UInt8) = [99, 110, 102] then match numD (itoa (mostL l)), numD (itoa l.length) with
      | some v, some c => if v ≤ 65536 then some { PS.init with begun := true, v := v, c := c } else none
      | _, _ => none
    else none else none) = _
    rw [if_pos rfl, if_pos rfl, i1, i2, numD_dec (u := (mostL l).toNat) (by unfold mostL; omega), numD_dec (u := l.length) (by omega)]
    simp only
    rw [if_pos (by unfold mostL; omega)]
    rfl
  · unfold headN at hb
    simp only [List.mem_append, List.mem_cons, List.not_mem_nil, or_false] at hb
    rcases hb with rfl | rfl | (rfl | rfl | rfl) | rfl | hb | rfl | hb
    · decide
    · decide
    · decide
    · decide
    · decide
    · decide
    · exact (b1.2.2 b hb).2.1
    · decide
    · exact (b2.2.2 b hb).2.1
theorem parse_print (l : List (List Int)) (h : okL l) (hl : l.length ≤ 100000000) (hs : (prT l).length ≤ 65536) : ∃ st, parseD (prT l) = .good st ∧ st.out = l := by
  obtain ⟨h1, h2⟩ := head_line l h hl
  have e : ll [] (prT l) = headN l :: (l.map clN ++ [[]]) := by
    unfold prT
    rw [headT_headN, List.append_assoc]
    show ll [] (headN l ++ 10 :: l.flatMap clT) = _
    rw [ll_take _ _ _ h2, ll_clauses l h]
    rfl
  have hm := mostA_le l 0 (by omega) (by omega) h
  have hg := mostA_ge l 0
  unfold parseD
  rw [if_neg (by omega), e]
  have h3 : linesS 0 PS.init (headN l :: (l.map clN ++ [[]])) = .good ⟨true, (mostL l).toNat, l.length, [] ++ l, [], false⟩ := by
    show (match lineS PS.init (wl [] (headN l)) with | some st' => linesS 1 st' (l.map clN ++ [[]]) | none => RR.bad 0) = _
    rw [h1]
    exact lines_clauses _ _ l 1 [] h (fun x hx n hn => by have := hg.2 x hx n hn; unfold mostL; omega) (by simp)
  rw [h3]
  refine ⟨⟨true, (mostL l).toNat, l.length, [] ++ l, [], false⟩, ?_, rfl⟩
  have : shut ⟨true, (mostL l).toNat, l.length, [] ++ l, [], false⟩ = true := by simp [shut]
  simp only [this, if_true]
theorem clT_len (c : List Int) (h : okC c) : (clT c).length ≤ 11 * c.length + 2 := by
  unfold clT
  have : ∀ (c : List Int), okC c → (c.flatMap numT).length ≤ 11 * c.length := by
    intro c
    induction c with
    | nil => intro _; simp
    | cons n c ih =>
      intro h
      have h1 := ih (fun x hx => h x (by simp [hx]))
      have h2 := (itoa_bytes (okN_rng (h n (by simp)))).2.1
      have e : (numT n).length = (itoa n).length + 1 := by simp [numT]
      rw [List.flatMap_cons, List.length_append, List.length_cons, e]
      omega
  have := this c h
  rw [List.length_append]
  simp only [List.length_cons, List.length_nil]
  omega
theorem prT_len (l : List (List Int)) (h : okL l) (hl : l.length ≤ 100000000) : (prT l).length ≤ 28 + 11 * bulk l := by
  have : ∀ (l : List (List Int)), okL l → (l.flatMap clT).length ≤ 11 * bulk l := by
    intro l
    induction l with
    | nil => intro _; simp [bulk]
    | cons c l ih =>
      intro h
      have h1 := ih (fun x hx => h x (by simp [hx]))
      have h2 := clT_len c (h c (by simp))
      rw [List.flatMap_cons, List.length_append]
      simp only [bulk, List.length_cons, List.map_cons, List.sum_cons] at h1 ⊢
      omega
  have h1 := this l h
  have hm := mostA_le l 0 (by omega) (by omega) h
  have b1 := (itoa_bytes (n := mostL l) (by unfold mostL; omega)).2.1
  have b2 := (itoa_bytes (n := (l.length : Int)) (by omega)).2.1
  unfold prT headT
  simp only [List.length_append, List.length_cons, List.length_nil]
  omega
end Go.Proofs.YthhnhbpmpdminaaGreatDoor
