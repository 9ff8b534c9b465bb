/-
The reference's reader (as printed) tells what the program's tells: the text. Conditions: the text's length.
-/
import Derived.Test.YthhnhbpmpdminaaGreatDoorDrf
namespace Go.Proofs.YthhnhbpmpdminaaGreatDoor
set_option maxRecDepth 4096
open Go.RowKit Go.Proofs.YthhnhbpmpdminaaGreatDoorW.PrintWords PDimacsParse

abbrev RT4 := List (List Int) × Int × Int × Int
def numberC (st : PS) (m : Bool) (d : List UInt8) : Option PS :=
  if st.out.length = st.c then none else match numD d with
    | none => none
    | some n => if st.v < n ∨ (m = true ∧ n = 0) then none
      else if n = 0 then some { st with out := st.out ++ [st.now], now := [], half := false }
      else some { st with now := st.now ++ [if m = true then -(n : Int) else (n : Int)], half := true }
theorem numD_lt {l : List UInt8} {n : Nat} (h : numD l = some n) : n < 1000000000 := by
  unfold numD at h
  split at h
  · rename_i hq
    unfold Lib.decNat at h
    split at h
    · cases h
    · have h1 := decFrom_lt _ _ _ h
      have h2 : 10 ^ l.length ≤ 10 ^ 9 := Nat.pow_le_pow_right (by omega) hq.1
      rw [Nat.zero_add, Nat.one_mul] at h1
      have : (10 : Nat) ^ 9 = 1000000000 := by decide
      omega
  · cases h
/-- What is told behind a number. -/
def goW (k : Nat) (x6 x14 : List ByteArray) (i j : Nat) (o : Option PS) : Option RT4 := match o with
  | some st' => plaitref19_Parse.l1 k x6 st'.begun (st'.v : Int) (st'.c : Int) st'.out st'.now st'.half (i : Int) x14 (j : Int)
  | none => some ([], 0, (i : Int), 190)
theorem p_j6 (x6 x14 : List ByteArray) (i j k n : Nat) (st : PS) (m B : Bool) (hn : n < 1000000000) (hj : j ≤ 10000000) (ho : st.out.length ≤ 5000000000) (hw : st.now.length ≤ 5000000000) :
    plaitref19_Parse.j6 (k + 1) x6 st.begun (st.v : Int) (st.c : Int) st.out st.now (i : Int) x14 (j : Int) m (n : Int) B = goW k x6 x14 i (j + 1) (if B = true then none else
      if n = 0 then some { st with out := st.out ++ [st.now], now := [], half := false }
      else some { st with now := st.now ++ [if m = true then -(n : Int) else (n : Int)], half := true }) := by
  have e4 : wrap64 ((j : Int) + 1) = ((j + 1 : Nat) : Int) := w64 (by omega)
  have e5 : wrap64 (-(n : Int)) = -(n : Int) := w64 (by omega)
  rw [plaitref19_Parse.j6, e4]
  cases B with
  | true => rfl
  | false =>
    rw [if_neg (by simp)]
    show _ = goW k x6 x14 i (j + 1) (if n = 0 then some { st with out := st.out ++ [st.now], now := [], half := false }
      else some { st with now := st.now ++ [if m = true then -(n : Int) else (n : Int)], half := true })
    by_cases h0 : n = 0
    · rw [if_pos (by omega), if_pos (by omega), if_pos h0]
      rfl
    · rw [if_neg (by omega)]
      cases m with
      | true => rw [if_pos rfl, if_pos (by omega), if_neg h0, e5]; rfl
      | false => rw [if_neg (by simp), if_pos (by omega), if_neg h0]; rfl
theorem p_j5 (x6 x14 : List ByteArray) (i j k : Nat) (st : PS) (m : Bool) (d : ByteArray) (hk : 12 ≤ k) (hj : j ≤ 10000000) (ho : st.out.length ≤ 5000000000) (hw : st.now.length ≤ 5000000000) :
    plaitref19_Parse.j5 (k + 2) x6 st.begun (st.v : Int) (st.c : Int) st.out st.now (i : Int) x14 (j : Int) m d = goW k x6 x14 i (j + 1) (numberC st m d.data.toList) := by
  rw [plaitref19_Parse.j5, number_f d (k + 1) (by omega), Option.bind_some]
  unfold numberC
  cases hd : numD d.data.toList with
  | none =>
    show (if (false : Bool) = true then _ else plaitref19_Parse.j6 (k + 1) _ _ _ _ _ _ _ _ _ _ ((0 : Nat) : Int) true) = _
    rw [if_neg (by simp), p_j6 _ _ _ _ _ _ st _ _ (by omega) hj ho hw, if_pos rfl]
    split <;> rfl
  | some n =>
    have hn := numD_lt hd
    show (if (true : Bool) = true then (if (n : Int) > (st.v : Int) then _ else _) else _) = _
    rw [if_pos rfl]
    have hlen : ((st.out.length : Int) == (st.c : Int)) = decide (st.out.length = st.c) := by
      by_cases h : st.out.length = st.c
      · rw [h]; simp
      · rw [beq_eq_false_iff_ne.2 (by omega), decide_eq_false h]
    simp only [numR, hlen]
    by_cases hv : st.v < n
    · rw [if_pos (by omega), p_j6 _ _ _ _ _ _ st _ _ hn hj ho hw, if_pos rfl]
      split
      · rfl
      · rw [if_pos (.inl hv)]
    · rw [if_neg (by omega)]
      cases m with
      | true =>
        rw [if_pos rfl]
        by_cases h0 : n = 0
        · rw [if_pos (by omega), p_j6 _ _ _ _ _ _ st _ _ hn hj ho hw, if_pos rfl]
          split
          · rfl
          · rw [if_pos (.inr ⟨rfl, h0⟩)]
        · rw [if_neg (by omega), p_j6 _ _ _ _ _ _ st _ _ hn hj ho hw]
          by_cases hc : st.out.length = st.c
          · rw [decide_eq_true hc, if_pos rfl, if_pos hc]
          · rw [decide_eq_false hc, if_neg (by simp), if_neg hc, if_neg (show ¬ (st.v < n ∨ (true = true ∧ n = 0)) from fun q => q.elim hv (fun q => h0 q.2))]
      | false =>
        rw [if_neg (by simp), p_j6 _ _ _ _ _ _ st _ _ hn hj ho hw]
        by_cases hc : st.out.length = st.c
        · rw [decide_eq_true hc, if_pos rfl, if_pos hc]
        · rw [decide_eq_false hc, if_neg (by simp), if_neg hc, if_neg (show ¬ (st.v < n ∨ (false = true ∧ n = 0)) from fun q => q.elim hv (fun q => by cases q.1))]
theorem p_word (x6 x14 : List ByteArray) (i j k : Nat) (st : PS) (x : ByteArray) (hx : x14[j]? = some x) (hk : 12 ≤ k) (hj : j ≤ 10000000) (ho : st.out.length ≤ 5000000000) (hw : st.now.length ≤ 5000000000) :
    plaitref19_Parse.l1 (k + 4) x6 st.begun (st.v : Int) (st.c : Int) st.out st.now st.half (i : Int) x14 (j : Int) = goW k x6 x14 i (j + 1) (numberS st x.data.toList) := by
  have hlj := (List.getElem?_eq_some_iff.1 hx).1
  have hsz := Lib.size_eq x
  rw [plaitref19_Parse.l1, if_pos (by omega), if_pos (by omega), rd_of hx]
  have H : ∀ (m : Bool) (d : ByteArray), (m = true → 1 ≤ x.size ∧ d = x.extract 1 x.size) → (m = false → d = x) →
      plaitref19_Parse.j4 (k + 3) x6 st.begun (st.v : Int) (st.c : Int) st.out st.now (i : Int) x14 (j : Int) m = goW k x6 x14 i (j + 1) (numberC st m d.data.toList) := by
    intro m d h1 h2
    rw [plaitref19_Parse.j4, if_pos (by omega), if_pos (by omega), rd_of hx]
    cases m with
    | true =>
      obtain ⟨hs, rfl⟩ := h1 rfl
      rw [if_pos rfl, if_pos (by omega)]
      exact p_j5 x6 x14 i j k st true _ hk hj ho hw
    | false =>
      obtain rfl := h2 rfl
      rw [if_neg (by simp)]
      exact p_j5 x6 x14 i j k st false _ hk hj ho hw
  by_cases h1 : 1 < x.size
  · rw [if_pos (by omega), if_pos (by omega)]
    have hb := byte_at x 0 (by omega)
    generalize x[0]'_ = b at hb
    have hbt : bt x 0 = (b.toNat : Int) := bt_of (i := 0) hb
    obtain ⟨rest, hr⟩ : ∃ rest, x.data.toList = b :: rest := by
      cases hl : x.data.toList with
      | nil => rw [hl] at hb; cases hb
      | cons a r => rw [hl] at hb; cases hb; exact ⟨r, rfl⟩
    rw [hbt]
    by_cases h45 : b = 45
    · subst h45
      have e : (((45 : UInt8).toNat : Int) == 45) = true := by decide
      rw [e, H true _ (fun _ => ⟨by omega, rfl⟩) (fun q => by cases q)]
      congr 1
      unfold numberC numberS
      have et : Lib.trimPrefix x.data.toList [45] = (x.extract 1 x.size).data.toList := by
        rw [Lib.extract_data, hr]
        unfold Lib.trimPrefix Lib.hasPrefix
        simp [List.isPrefixOf]
        rw [hsz, hr]; simp
      have eh : Lib.hasPrefix x.data.toList [45] = true := by rw [hr]; simp [Lib.hasPrefix, List.isPrefixOf]
      rw [et, eh]
      rfl
    · have e : ((b.toNat : Int) == 45) = false := by
        rw [beq_eq_false_iff_ne]
        intro q
        exact h45 (UInt8.toNat_inj.1 (by have : b.toNat = 45 := by omega
                                         rw [this]; rfl))
      rw [e, H false x (fun q => by cases q) (fun _ => rfl)]
      congr 1
      unfold numberC numberS
      have eh : Lib.hasPrefix x.data.toList [45] = false := by
        rw [hr]
        show ([45].isPrefixOf (b :: rest)) = false
        simp [List.isPrefixOf]
        exact fun q => h45 q.symm
      have et : Lib.trimPrefix x.data.toList [45] = x.data.toList := by
        unfold Lib.trimPrefix; rw [eh]; rfl
      rw [et, eh]
      rfl
  · rw [if_neg (by omega), H false x (fun q => by cases q) (fun _ => rfl)]
    congr 1
    unfold numberC numberS
    by_cases hd : x.data.toList = [45]
    · rw [hd]; rfl
    · have eh : Lib.hasPrefix x.data.toList [45] = false := by
        cases hl : x.data.toList with
        | nil => rfl
        | cons a r =>
          rw [hl] at hd hsz
          have : r = [] := List.eq_nil_of_length_eq_zero (by simp at hsz; omega)
          subst this
          show ([45].isPrefixOf [a]) = false
          simp [List.isPrefixOf]
          exact fun q => hd (by rw [← q])
      have et : Lib.trimPrefix x.data.toList [45] = x.data.toList := by
        unfold Lib.trimPrefix; rw [eh]; rfl
      rw [et, eh]
      rfl
/-- What is told behind a line. -/
def goL (k : Nat) (x6 : List ByteArray) (i : Nat) (o : Option PS) : Option RT4 := match o with
  | some st' => plaitref19_Parse.l0 k x6 st'.begun (st'.v : Int) (st'.c : Int) st'.out st'.now st'.half ((i + 1 : Nat) : Int)
  | none => some ([], 0, (i : Int), 190)
theorem p_l1 (x6 x14 : List ByteArray) (i k : Nat) (hk : 12 ≤ k) (hi : i ≤ 10000000) (hl : x14.length ≤ 10000000) : ∀ (n j : Nat) (st : PS), j + n = x14.length → st.out.length + n ≤ 5000000000 → st.now.length + n ≤ 5000000000 →
    plaitref19_Parse.l1 (k + 4 * n + 1) x6 st.begun (st.v : Int) (st.c : Int) st.out st.now st.half (i : Int) x14 (j : Int) = goL k x6 i (numsS st ((datas x14).drop j)) := by
  intro n
  induction n with
  | zero =>
    intro j st hj ho hn
    have hd : (datas x14).drop j = [] := List.drop_eq_nil_of_le (by simp [datas]; omega)
    have e4 : wrap64 ((i : Int) + 1) = ((i + 1 : Nat) : Int) := w64 (by omega)
    rw [Nat.mul_zero, Nat.add_zero, plaitref19_Parse.l1, if_neg (by omega), e4, hd]
    rfl
  | succ n ih =>
    intro j st hj ho hn
    obtain ⟨x, hx⟩ : ∃ x, x14[j]? = some x := ⟨_, List.getElem?_eq_getElem (by omega)⟩
    have hd : (datas x14).drop j = x.data.toList :: (datas x14).drop (j + 1) := by
      have hlj : j < (datas x14).length := by simp [datas]; omega
      rw [List.drop_eq_getElem_cons hlj]
      congr 1
      have := (List.getElem?_eq_some_iff.1 hx).2
      simp [datas, this]
    rw [show k + 4 * (n + 1) + 1 = (k + 4 * n + 1) + 4 by omega, p_word x6 x14 i j _ st x hx (by omega) (by omega) (by omega) (by omega), hd]
    show goW _ _ _ _ _ _ = goL k x6 i (match numberS st x.data.toList with | some st' => numsS st' _ | none => none)
    cases hq : numberS st x.data.toList with
    | none => rfl
    | some st' =>
      have hg := numberS_grows hq
      exact ih (j + 1) st' (by omega) (by omega) (by omega)
theorem p_j2 (x6 : List ByteArray) (a b c d : ByteArray) (i k : Nat) (st : PS) (hk : 12 ≤ k) (hi : i ≤ 10000000) (B : Bool) :
    plaitref19_Parse.j2 (k + 1) x6 st.out st.now st.half (i : Int) [a, b, c, d] B = goL k x6 i (if B = true then match numD c.data.toList, numD d.data.toList with
      | some v, some c => if v ≤ 65536 then some { st with begun := true, v := v, c := c } else none
      | _, _ => none else none) := by
  have e4 : wrap64 ((i : Int) + 1) = ((i + 1 : Nat) : Int) := w64 (by omega)
  have r2 : rdOf ByteArray.empty [a, b, c, d] 2 = c := rfl
  have r3 : rdOf ByteArray.empty [a, b, c, d] 3 = d := rfl
  have l2 : (2 : Int) < (([a, b, c, d].length : Nat) : Int) := by show (2 : Int) < ((4 : Nat) : Int); decide
  have l3 : (3 : Int) < (([a, b, c, d].length : Nat) : Int) := by show (3 : Int) < ((4 : Nat) : Int); decide
  rw [plaitref19_Parse.j2]
  cases B with
  | false => rfl
  | true =>
    rw [if_pos rfl, if_pos l2, r2, number_f c k hk, Option.bind_some, if_pos l3, r3, number_f d k hk, Option.bind_some, e4, if_pos rfl]
    cases numD c.data.toList with
    | none => rfl
    | some v =>
      cases numD d.data.toList with
      | none => rfl
      | some n =>
        rw [if_pos (show (numR (some v)).2 = true from rfl), if_pos (show (numR (some n)).2 = true from rfl)]
        by_cases hv : v ≤ 65536
        · rw [if_pos (show (numR (some v)).1 ≤ 65536 from by show (v : Int) ≤ 65536; omega)]
          show _ = goL k x6 i (if v ≤ 65536 then some { st with begun := true, v := v, c := n } else none)
          rw [if_pos hv]; rfl
        · rw [if_neg (show ¬ (numR (some v)).1 ≤ 65536 from by show ¬ (v : Int) ≤ 65536; omega)]
          show _ = goL k x6 i (if v ≤ 65536 then some { st with begun := true, v := v, c := n } else none)
          rw [if_neg hv]; rfl
theorem p_line (x6 : List ByteArray) (i K : Nat) (l : ByteArray) (st : PS) (hl : x6[i]? = some l) (hls : l.size ≤ 65536) (hi : i ≤ 10000000) (hK : 300000 ≤ K) (ho : st.out.length + 65537 ≤ 5000000000) (hn : st.now.length + 65537 ≤ 5000000000) :
    ∃ k, K ≤ k + 300000 ∧ plaitref19_Parse.l0 K x6 st.begun (st.v : Int) (st.c : Int) st.out st.now st.half (i : Int) = goL k x6 i (lineS st (wl [] l.data.toList)) := by
  obtain ⟨K, rfl⟩ : ∃ j, K = j + 1 + 1 := ⟨K - 2, by omega⟩
  have hli := (List.getElem?_eq_some_iff.1 hl).1
  obtain ⟨ws, e1, e2⟩ := words_f l (by omega) (K + 1) (by omega)
  have hwn : ws.length ≤ 65537 := by
    have h1 := wl_length l.data.toList []
    rw [← e2] at h1
    simp only [datas, List.length_map] at h1
    have := Lib.size_eq l
    omega
  have e4 : wrap64 ((i : Int) + 1) = ((i + 1 : Nat) : Int) := w64 (by omega)
  rw [plaitref19_Parse.l0, if_pos (by omega), if_pos (by omega), rd_of hl, e1, Option.bind_some, ← e2]
  have skip : ∀ x14, plaitref19_Parse.j1 (K + 1) x6 st.begun (st.v : Int) (st.c : Int) st.out st.now st.half (i : Int) x14 true = goL K x6 i (some st) := fun x14 => by
    rw [plaitref19_Parse.j1, if_pos rfl, e4]; rfl
  cases ws with
  | nil =>
    refine ⟨K, by omega, ?_⟩
    rw [if_pos (by simp), skip]
    rfl
  | cons a r =>
    rw [if_neg (by simp only [List.length_cons]; omega), if_pos (by simp only [List.length_cons]; omega)]
    have r0 : rdOf ByteArray.empty (a :: r) 0 = a := rfl
    rw [r0]
    show ∃ k, _ ∧ _ = goL k x6 i (if a.data.toList = [99] then some st else if st.begun = true then numsS st (datas (a :: r)) else headS st (datas (a :: r)))
    by_cases h99 : a.data.toList = [99]
    · refine ⟨K, by omega, ?_⟩
      have : (a.toList == ([99] : List UInt8)) = true := by rw [Lib.toList_data, h99]; rfl
      rw [this, skip, if_pos h99]
    · have hf : (a.toList == ([99] : List UInt8)) = false := by rw [Lib.toList_data]; simpa using h99
      rw [hf, if_neg h99, plaitref19_Parse.j1, if_neg (by simp)]
      cases hb : st.begun with
      | true =>
        obtain ⟨k, hk⟩ : ∃ k, K = k + 4 * (a :: r).length + 1 := ⟨K - 4 * (a :: r).length - 1, by omega⟩
        refine ⟨k, by omega, ?_⟩
        have := p_l1 x6 (a :: r) i k (by omega) hi (by omega) (a :: r).length 0 st (by omega) (by omega) (by omega)
        rw [← hk, hb] at this
        rw [if_pos rfl, if_pos rfl]
        exact this
      | false =>
        rw [if_neg (by simp)]
        show ∃ k, _ ∧ _ = goL k x6 i (headS st (datas (a :: r)))
        obtain ⟨k, rfl⟩ : ∃ k, K = k + 1 := ⟨K - 1, by omega⟩
        refine ⟨k, by omega, ?_⟩
        have no : ∀ x14, plaitref19_Parse.j2 (k + 1) x6 st.out st.now st.half (i : Int) x14 false = goL k x6 i none := fun x14 => by
          rw [plaitref19_Parse.j2, if_neg (by simp)]; rfl
        by_cases h4 : (a :: r).length = 4
        · obtain ⟨b, c, d, rfl⟩ : ∃ b c d, r = [b, c, d] := by
            match r, h4 with
            | [b, c, d], _ => exact ⟨b, c, d, rfl⟩
          have r1 : rdOf ByteArray.empty [a, b, c, d] 1 = b := rfl
          rw [if_pos (by show ((4 : Nat) : Int) = 4; decide), if_pos (by show (0 : Int) < ((4 : Nat) : Int); decide), r1]
          show _ = goL k x6 i (if a.data.toList = [112] then if b.data.toList = [99, 110, 102] then match numD c.data.toList, numD d.data.toList with
            | some v, some c => if v ≤ 65536 then some { st with begun := true, v := v, c := c } else none
            | _, _ => none else none else none)
          by_cases h112 : a.data.toList = [112]
          · rw [if_pos (by rw [Lib.toList_data]; exact h112), if_pos (by show (1 : Int) < ((4 : Nat) : Int); decide), if_pos h112, p_j2 x6 a b c d i k st (by omega) hi]
            congr 1
            by_cases hcn : b.data.toList = [99, 110, 102]
            · have : (b.toList == ([99, 110, 102] : List UInt8)) = true := by rw [Lib.toList_data, hcn]; rfl
              rw [this, if_pos rfl, if_pos hcn]
            · have : (b.toList == ([99, 110, 102] : List UInt8)) = false := by rw [Lib.toList_data]; simpa using hcn
              rw [this, if_neg (by simp), if_neg hcn]
          · rw [if_neg (by rw [Lib.toList_data]; exact h112), if_neg h112, no]
        · rw [if_neg (by omega), no, not_four (by simpa [datas] using h4)]
def outR (L : Nat) : RR → RT4
  | .bad j => ([], 0, (j : Int), 190)
  | .good st => if shut st = true then (st.out, (st.v : Int), 0, 0) else ([], 0, ((L - 1 : Nat) : Int), 190)
theorem p_lines (x6 : List ByteArray) (hx : x6.length ≤ 65537) (hx0 : 0 < x6.length) (hxs : ∀ x ∈ x6, x.size ≤ 65536) : ∀ (n i : Nat) (st : PS) (K : Nat), i + n = x6.length → n * 300000 + 10 ≤ K → st.out.length + n * 65537 ≤ 4900000000 → st.now.length + n * 65537 ≤ 4900000000 →
    plaitref19_Parse.l0 K x6 st.begun (st.v : Int) (st.c : Int) st.out st.now st.half (i : Int) = some (outR x6.length (linesS i st ((datas x6).drop i))) := by
  intro n
  induction n with
  | zero =>
    intro i st K hi hK ho hn
    obtain ⟨K, rfl⟩ : ∃ j, K = j + 1 := ⟨K - 1, by omega⟩
    have hd : (datas x6).drop i = [] := List.drop_eq_nil_of_le (by simp [datas]; omega)
    have e4 : wrap64 ((x6.length : Int) - 1) = ((x6.length - 1 : Nat) : Int) := by rw [w64 (by omega)]; omega
    rw [plaitref19_Parse.l0, if_neg (by omega), e4, hd]
    show _ = some (if shut st = true then _ else _)
    unfold shut
    cases hb : st.begun with
    | false => rfl
    | true =>
      rw [if_pos rfl]
      cases hh : st.half with
      | true => rfl
      | false =>
        rw [if_neg (by simp)]
        by_cases hc : st.out.length < st.c
        · rw [if_pos (by omega), decide_eq_true hc]; rfl
        · rw [if_neg (by omega), decide_eq_false hc]; rfl
  | succ n ih =>
    intro i st K hi hK0 ho0 hn0
    obtain ⟨q, hq⟩ : ∃ q, q = n * 300000 := ⟨_, rfl⟩
    obtain ⟨p, hp⟩ : ∃ q, q = n * 65537 := ⟨_, rfl⟩
    have hK : q + 300000 + 10 ≤ K := by rw [Nat.succ_mul, ← hq] at hK0; exact hK0
    have ho : st.out.length + p + 65537 ≤ 4900000000 := by rw [Nat.succ_mul, ← hp, ← Nat.add_assoc] at ho0; exact ho0
    have hn : st.now.length + p + 65537 ≤ 4900000000 := by rw [Nat.succ_mul, ← hp, ← Nat.add_assoc] at hn0; exact hn0
    have AQ := Aside0.mk hq
    have AP := Aside0.mk hp
    have AI := Aside0.mk ih
    clear hq hp ih
    clear hK0 ho0 hn0
    obtain ⟨x, hx1⟩ : ∃ x, x6[i]? = some x := ⟨_, List.getElem?_eq_getElem (by omega)⟩
    have hd : (datas x6).drop i = x.data.toList :: (datas x6).drop (i + 1) := by
      have hlj : i < (datas x6).length := by simp [datas]; omega
      rw [List.drop_eq_getElem_cons hlj]
      congr 1
      have := (List.getElem?_eq_some_iff.1 hx1).2
      simp [datas, this]
    have hxz := hxs x (List.mem_of_getElem? hx1)
    have g1 : i ≤ 10000000 := by omega
    have g2 : 300000 ≤ K := Nat.le_trans (Nat.le_trans (Nat.le_add_left 300000 q) (Nat.le_add_right _ 10)) hK
    have g3 : st.out.length + 65537 ≤ 5000000000 := by
      omega
    have g4 : st.now.length + 65537 ≤ 5000000000 := by
      omega
    obtain ⟨k, hk, e⟩ := p_line x6 i K x st hx1 hxz g1 g2 g3 g4
    rw [e, hd]
    show _ = some (outR x6.length (match lineS st (wl [] x.data.toList) with | some st' => linesS (i + 1) st' _ | none => .bad i))
    cases hq : lineS st (wl [] x.data.toList) with
    | none => rfl
    | some st' =>
      have hg := lineS_grows hq
      have hwl := wl_length x.data.toList []
      have hxx := Lib.size_eq x
      have f2 : q + 10 ≤ k := by omega
      have f3 : st'.out.length + p ≤ 4900000000 := by omega
      have f4 : st'.now.length + p ≤ 4900000000 := by omega
      have f1 : i + 1 + n = x6.length := by omega
      have := AI.out (i + 1) st' k f1 (by rw [← AQ.out]; exact f2) (by rw [← AP.out]; exact f3) (by rw [← AP.out]; exact f4)
      simp only [goL]
      exact this
def outT : TR → RT4
  | .bad i n => ([], 0, (i : Int), (n : Int))
  | .good st => (st.out, (st.v : Int), 0, 0)
theorem ll_pos (l : List UInt8) : ∀ cur, 0 < (ll cur l).length := by
  induction l with
  | nil => intro cur; exact Nat.one_pos
  | cons b l ih =>
    intro cur
    unfold ll
    split
    · simp
    · exact ih _
theorem parse_f (t : ByteArray) (K : Nat) (hK : 20000000000 ≤ K) : plaitref19_Parse.f K t = some (outT (parseD t.data.toList)) := by
  have hs := Lib.size_eq t
  unfold plaitref19_Parse.f parseD
  by_cases hl : 65536 < t.size
  · rw [if_pos (by omega), if_pos (by omega)]; rfl
  · rw [if_neg (by omega), if_neg (by omega)]
    obtain ⟨ls, e1, e2⟩ := lines_f t (by omega) K (by omega)
    rw [e1, Option.bind_some]
    have hlen : ls.length = (ll [] t.data.toList).length := by rw [← e2]; simp [datas]
    have h1 := ll_length t.data.toList []
    have h2 := ll_pos t.data.toList []
    have := p_lines ls (by omega) (by omega) (fun x hx => by
      have h3 : x.data.toList ∈ datas ls := List.mem_map_of_mem hx
      rw [e2] at h3
      have h4 := ll_each _ _ _ h3
      have := Lib.size_eq x
      simp at h4
      omega) ls.length 0 PS.init K (by omega) (by omega) (by simp [PS.init]; omega) (by simp [PS.init]; omega)
    have this : plaitref19_Parse.l0 K ls false 0 0 [] [] false 0 = some (outR ls.length (linesS 0 PS.init ((datas ls).drop 0))) := this
    rw [this, List.drop_zero, e2, hlen]
    cases linesS 0 PS.init (ll [] t.data.toList) with
    | bad j => rfl
    | good st =>
      show some (if shut st = true then _ else _) = some (outT (if shut st = true then _ else _))
      split <;> rfl
end Go.Proofs.YthhnhbpmpdminaaGreatDoor
