/-
A text of clauses with blanks and remarks put in is read as the same clauses. Conditions: the text's length.
-/
import Derived.Test.YthhnhbpmpdminaaGreatDoorDpp
namespace Go.Proofs.YthhnhbpmpdminaaGreatDoor
open Go.Lib

def sepS (k : Nat) : List UInt8 := if k = 0 then [10] else if k = 1 then [10, 32, 32, 10, 99, 32, 48, 32, 48, 10, 32] else [32, 32, 32]
def bl (sel : Nat → Nat) : Bool → Nat → List UInt8 → List UInt8
  | _, _, [] => []
  | head, i, b :: r => if (b ≠ 10 ∧ b ≠ 32) ∨ (head = true ∧ b = 32) then b :: bl sel head (i + 1) r
    else if head = true then [10, 32, 99, 32, 116, 119, 111, 10] ++ bl sel false (i + 1) r
    else sepS (sel i) ++ bl sel false (i + 1) r
def blT (sel : Nat → Nat) (t : List UInt8) : List UInt8 := [99, 32, 102, 105, 114, 115, 116, 10, 10] ++ bl sel true 0 t
/-- a word -/
def Wd (w : List UInt8) : Prop := w ≠ [] ∧ w ≠ [99] ∧ ∀ b ∈ w, b ≠ 32 ∧ b ≠ 10
inductive Body : List (List UInt8) → List UInt8 → Prop
  | nil : Body [] []
  | cons (w : List UInt8) (b : UInt8) (ws : List (List UInt8)) (r : List UInt8) : Wd w → (b = 32 ∨ b = 10) → Body ws r → Body (w :: ws) (w ++ b :: r)
theorem bl_word (sel : Nat → Nat) : ∀ (w r : List UInt8) (h : Bool) (i : Nat), (∀ b ∈ w, b ≠ 32 ∧ b ≠ 10) → bl sel h i (w ++ r) = w ++ bl sel h (i + w.length) r
  | [], r, h, i, _ => by simp
  | b :: w, r, h, i, hw => by
    show (if (b ≠ 10 ∧ b ≠ 32) ∨ (h = true ∧ b = 32) then b :: bl sel h (i + 1) (w ++ r) else _) = _
    have hb := hw b (by simp)
    rw [if_pos (.inl ⟨hb.2, hb.1⟩), bl_word sel w r h (i + 1) (fun x hx => hw x (by simp [hx]))]
    simp only [List.length_cons, List.cons_append]
    rw [show i + 1 + w.length = i + (w.length + 1) by omega]
theorem bl_head (sel : Nat → Nat) : ∀ (w r : List UInt8) (i : Nat), (∀ b ∈ w, b ≠ 10) → bl sel true i (w ++ r) = w ++ bl sel true (i + w.length) r
  | [], r, i, _ => by simp
  | b :: w, r, i, hw => by
    show (if (b ≠ 10 ∧ b ≠ 32) ∨ (true = true ∧ b = 32) then b :: bl sel true (i + 1) (w ++ r) else _) = _
    have hb := hw b (by simp)
    rw [if_pos (by by_cases h : b = 32; exact .inr ⟨rfl, h⟩; exact .inl ⟨hb, h⟩), bl_head sel w r (i + 1) (fun x hx => hw x (by simp [hx]))]
    simp only [List.length_cons, List.cons_append]
    rw [show i + 1 + w.length = i + (w.length + 1) by omega]
theorem bl_sep (sel : Nat → Nat) (b : UInt8) (r : List UInt8) (i : Nat) (hb : b = 32 ∨ b = 10) : bl sel false i (b :: r) = sepS (sel i) ++ bl sel false (i + 1) r := by
  show (if (b ≠ 10 ∧ b ≠ 32) ∨ (false = true ∧ b = 32) then _ else if false = true then _ else _) = _
  rw [if_neg (by rintro (⟨q1, q2⟩ | ⟨q, _⟩); rcases hb with h | h; exact q2 h; exact q1 h; cases q), if_neg (by simp)]
/-- A line so far: whole words, each ended by a blank. -/
structure Ln (cur : List UInt8) (ws : List (List UInt8)) : Prop where
  no10 : ∀ b ∈ cur, b ≠ 10
  whole : ∀ x, wl [] (cur ++ x) = ws ++ wl [] x
  no99 : ∀ w ∈ ws, w ≠ [99]
theorem Ln.nil : Ln [] [] := ⟨(fun b h => by cases h), (fun x => rfl), (fun w h => by cases h)⟩
theorem wl_blank (x : List UInt8) : wl [] (32 :: x) = wl [] x := by
  show (if (32 : UInt8) = 32 then (if ([] : List UInt8) = [] then wl [] x else _) else _) = _
  rw [if_pos rfl, if_pos rfl]
theorem Ln.blank : Ln [32] [] := ⟨(fun b h => by rw [List.mem_singleton] at h; subst h; decide), (fun x => wl_blank x), (fun w h => by cases h)⟩
theorem Ln.word {cur : List UInt8} {ws : List (List UInt8)} (h : Ln cur ws) {w : List UInt8} (hw : Wd w) : Ln (cur ++ w ++ [32, 32, 32]) (ws ++ [w]) := by
  refine ⟨fun b hb => ?_, fun x => ?_, fun y hy => ?_⟩
  · simp only [List.mem_append, List.mem_cons, List.not_mem_nil, or_false] at hb
    rcases hb with (hb | hb) | rfl | rfl | rfl
    · exact h.no10 b hb
    · exact (hw.2.2 b hb).2
    · decide
    · decide
    · decide
  · have e : cur ++ w ++ [32, 32, 32] ++ x = cur ++ (w ++ 32 :: (32 :: (32 :: x))) := by simp
    rw [e, h.whole, wl_take _ _ (fun b hb => (hw.2.2 b hb).1) hw.1, wl_blank, wl_blank, List.append_assoc]
    rfl
  · rcases List.mem_append.1 hy with hy | hy
    · exact h.no99 y hy
    · rw [List.mem_singleton] at hy; subst hy; exact hw.2.1
theorem Ln.ends {cur : List UInt8} {ws : List (List UInt8)} (h : Ln cur ws) {w : List UInt8} (hw : Wd w) : wl [] (cur ++ w) = ws ++ [w] := by
  rw [h.whole, wl_last _ (fun b hb => (hw.2.2 b hb).1) hw.1]
theorem line_nums (st : PS) (hb : st.begun = true) (ws : List (List UInt8)) (h : ∀ w ∈ ws, w ≠ [99]) : lineS st ws = numsS st ws := by
  cases ws with
  | nil => rfl
  | cons w r =>
    show (if w = [99] then some st else if st.begun = true then numsS st (w :: r) else _) = _
    rw [if_neg (h w (by simp)), if_pos hb]
theorem linesS_cons (i : Nat) (st st' : PS) (x : List UInt8) (r : List (List UInt8)) (h : lineS st (wl [] x) = some st') : linesS i st (x :: r) = linesS (i + 1) st' r := by
  show (match lineS st (wl [] x) with | some st' => linesS (i + 1) st' r | none => RR.bad i) = _
  rw [h]
theorem numberS_begun {st st' : PS} {w : List UInt8} (h : numberS st w = some st') : st'.begun = st.begun := by
  unfold numberS at h
  split at h
  · cases h
  · split at h
    · cases h
    · split at h
      · cases h
      · split at h <;> (cases h; rfl)
theorem numsS_begun : ∀ {ws : List (List UInt8)} {st st' : PS}, numsS st ws = some st' → st'.begun = st.begun
  | [], st, st', h => by cases h; rfl
  | w :: r, st, st', h => by
    have h : (match numberS st w with | some st' => numsS st' r | none => none) = some st' := h
    cases hn : numberS st w with
    | none => rw [hn] at h; cases h
    | some s1 => rw [hn] at h; exact (numsS_begun h).trans (numberS_begun hn)
theorem body_read (sel : Nat → Nat) {ws : List (List UInt8)} {r : List UInt8} (hB : Body ws r) : ∀ (i j : Nat) (st0 st1 stf : PS) (cur : List UInt8) (us : List (List UInt8)), Ln cur us → st0.begun = true → numsS st0 us = some st1 → numsS st1 ws = some stf →
    linesS j st0 (ll cur (bl sel false i r)) = .good stf := by
  induction hB with
  | nil =>
    intro i j st0 st1 stf cur us hL hb h1 h2
    cases h2
    have e := hL.whole []
    rw [List.append_nil] at e
    show linesS j st0 [cur] = _
    rw [linesS_cons j st0 st1 cur [] (by rw [e]; show lineS st0 (us ++ []) = _; rw [List.append_nil, line_nums st0 hb us hL.no99]; exact h1)]
    rfl
  | cons w b ws r hw hbb _ ih =>
    intro i j st0 st1 stf cur us hL hb h1 h2
    have h2 : (match numberS st1 w with | some st' => numsS st' ws | none => none) = some stf := h2
    cases hn : numberS st1 w with
    | none => rw [hn] at h2; cases h2
    | some st2 =>
      rw [hn] at h2
      have h3 : numsS st0 (us ++ [w]) = some st2 := by
        rw [numsS_append, h1]
        show (match numberS st1 w with | some st' => numsS st' [] | none => none) = _
        rw [hn]; rfl
      have hb2 : st2.begun = true := (numsS_begun h3).trans hb
      have h99 : ∀ y ∈ us ++ [w], y ≠ [99] := fun y hy => by
        rcases List.mem_append.1 hy with hy | hy
        · exact hL.no99 y hy
        · rw [List.mem_singleton] at hy; subst hy; exact hw.2.1
      have hno : ∀ y ∈ w, y ≠ 10 := fun y hy => (hw.2.2 y hy).2
      have hline : lineS st0 (wl [] (cur ++ w)) = some st2 := by rw [hL.ends hw, line_nums st0 hb _ h99]; exact h3
      rw [bl_word sel w _ _ _ hw.2.2, bl_sep sel b r _ hbb]
      unfold sepS
      split
      · show linesS j st0 (ll cur (w ++ 10 :: bl sel false (i + w.length + 1) r)) = _
        rw [ll_take w cur _ hno, linesS_cons j st0 st2 _ _ hline]
        exact ih _ _ st2 st2 stf [] [] Ln.nil hb2 rfl h2
      · split
        · show linesS j st0 (ll cur (w ++ 10 :: ([32, 32] ++ 10 :: ([99, 32, 48, 32, 48] ++ 10 :: (32 :: bl sel false (i + w.length + 1) r))))) = _
          rw [ll_take w cur _ hno, linesS_cons j st0 st2 _ _ hline, ll_take [32, 32] [] _ (by decide), linesS_cons _ st2 st2 _ _ (by rfl), ll_take [99, 32, 48, 32, 48] [] _ (by decide), linesS_cons _ st2 st2 _ _ (by rfl)]
          show linesS _ st2 (if (32 : UInt8) = 10 then _ else ll ([] ++ [32]) (bl sel false (i + w.length + 1) r)) = _
          rw [if_neg (by decide)]
          exact ih _ _ st2 st2 stf [32] [] Ln.blank hb2 rfl h2
        · have e : ll cur (w ++ ([32, 32, 32] ++ bl sel false (i + w.length + 1) r)) = ll (cur ++ w ++ [32, 32, 32]) (bl sel false (i + w.length + 1) r) := by
            have key : ∀ (x y c : List UInt8), (∀ b ∈ x, b ≠ 10) → ll c (x ++ y) = ll (c ++ x) y := by
              intro x
              induction x with
              | nil => intro y c _; simp
              | cons a x ihx =>
                intro y c h
                show (if a = 10 then _ else ll (c ++ [a]) (x ++ y)) = _
                rw [if_neg (h a (by simp)), ihx y _ (fun b hb => h b (by simp [hb])), List.append_assoc]
                rfl
            rw [key w _ _ hno, key [32, 32, 32] _ _ (by decide)]
          rw [e]
          exact ih _ _ st0 st2 stf (cur ++ w ++ [32, 32, 32]) (us ++ [w]) (hL.word hw) hb h3 h2
def toksC (c : List Int) : List (List UInt8) := c.map itoa ++ [[48]]
theorem wd_itoa {n : Int} (h : okN n) : Wd (itoa n) := by
  have hb := itoa_bytes (okN_rng h)
  exact ⟨hb.1, fun q => by rw [q] at hb; exact (hb.2.2 99 (by simp)).2.2 rfl, fun b hb2 => ⟨(hb.2.2 b hb2).1, (hb.2.2 b hb2).2.1⟩⟩
theorem body_clause : ∀ (c : List Int) (ws : List (List UInt8)) (r : List UInt8), okC c → Body ws r → Body (toksC c ++ ws) (clT c ++ r)
  | [], ws, r, _, h => Body.cons [48] 10 ws r ⟨by decide, by decide, by decide⟩ (.inr rfl) h
  | n :: c, ws, r, ho, h => by
    have e : clT (n :: c) ++ r = itoa n ++ 32 :: (clT c ++ r) := by simp [clT, numT]
    rw [e]
    exact Body.cons (itoa n) 32 _ _ (wd_itoa (ho n (by simp))) (.inl rfl) (body_clause c ws r (fun x hx => ho x (by simp [hx])) h)
theorem body_clauses : ∀ (l : List (List Int)), okL l → Body (l.flatMap toksC) (l.flatMap clT)
  | [], _ => Body.nil
  | c :: l, h => by
    rw [List.flatMap_cons, List.flatMap_cons]
    exact body_clause c _ _ (h c (by simp)) (body_clauses l (fun x hx => h x (by simp [hx])))
theorem nums_clauses (v k : Nat) : ∀ (l : List (List Int)) (out : List (List Int)), okL l → (∀ x ∈ l, ∀ n ∈ x, n.natAbs ≤ v) → out.length + l.length ≤ k →
    numsS ⟨true, v, k, out, [], false⟩ (l.flatMap toksC) = some ⟨true, v, k, out ++ l, [], false⟩
  | [], out, _, _, _ => by simp [numsS]
  | x :: l, out, h, hv, hc => by
    rw [List.flatMap_cons, numsS_append]
    have h1 := nums_clause x ⟨true, v, k, out, [], false⟩ (h x (by simp)) (hv x (by simp)) (by simp at hc; show out.length ≠ k; omega)
    have h1 : numsS ⟨true, v, k, out, [], false⟩ (toksC x) = some ⟨true, v, k, out ++ [[] ++ x], [], false⟩ := h1
    rw [h1]
    have := nums_clauses v k l (out ++ [x]) (fun y hy => h y (by simp [hy])) (fun y hy => hv y (by simp [hy])) (by simp at hc ⊢; omega)
    simpa using this
theorem parse_blank (sel : Nat → Nat) (l : List (List Int)) (h : okL l) (hl : l.length ≤ 100000000) (hs : (blT sel (prT l)).length ≤ 65536) : ∃ st, parseD (blT sel (prT l)) = .good st ∧ st.out = l := by
  obtain ⟨h1, h2⟩ := head_line l h hl
  have hm := mostA_le l 0 (by omega) (by omega) h
  have hg := mostA_ge l 0
  have hv : ∀ x ∈ l, ∀ n ∈ x, n.natAbs ≤ (mostL l).toNat := fun x hx n hn => by have := hg.2 x hx n hn; unfold mostL; omega
  have e : blT sel (prT l) = [99, 32, 102, 105, 114, 115, 116] ++ 10 :: ([] ++ 10 :: (headN l ++ 10 :: ([32, 99, 32, 116, 119, 111] ++ 10 :: bl sel false ((headN l).length + 1) (l.flatMap clT)))) := by
    unfold blT prT
    rw [headT_headN, List.append_assoc, bl_head sel (headN l) _ 0 h2, Nat.zero_add]
    show _ ++ (headN l ++ (if ((10 : UInt8) ≠ 10 ∧ (10 : UInt8) ≠ 32) ∨ (true = true ∧ (10 : UInt8) = 32) then _ else if true = true then [10, 32, 99, 32, 116, 119, 111, 10] ++ bl sel false ((headN l).length + 1) (l.flatMap clT) else _)) = _
    rw [if_neg (by decide), if_pos rfl]
    simp
  have hgood : linesS 0 PS.init (ll [] (blT sel (prT l))) = .good ⟨true, (mostL l).toNat, l.length, [] ++ l, [], false⟩ := by
    rw [e, ll_take _ _ _ (by decide), linesS_cons 0 PS.init PS.init _ _ (by rfl), ll_take [] [] _ (by decide), linesS_cons _ PS.init PS.init _ _ (by rfl), ll_take _ _ _ h2, linesS_cons _ PS.init _ _ _ (show lineS PS.init (wl [] ([] ++ headN l)) = _ from h1), ll_take _ _ _ (by decide), linesS_cons _ _ ⟨true, (mostL l).toNat, l.length, [], [], false⟩ _ _ (by rfl)]
    exact body_read sel (body_clauses l h) _ _ _ _ _ [] [] Ln.nil rfl rfl (nums_clauses _ _ l [] h hv (by simp))
  unfold parseD
  rw [if_neg (by omega), hgood]
  refine ⟨⟨true, (mostL l).toNat, l.length, [] ++ l, [], false⟩, ?_, rfl⟩
  have : shut ⟨true, (mostL l).toNat, l.length, [] ++ l, [], false⟩ = true := by simp [shut]
  simp only [this, if_true]
theorem bl_len (sel : Nat → Nat) : ∀ (t : List UInt8) (h : Bool) (i : Nat), (bl sel h i t).length ≤ 11 * t.length
  | [], _, _ => by simp [bl]
  | b :: r, h, i => by
    have h1 := bl_len sel r h (i + 1)
    have h2 := bl_len sel r false (i + 1)
    have h3 : (sepS (sel i)).length ≤ 11 := by unfold sepS; split; decide; split <;> decide
    unfold bl
    split
    · simp only [List.length_cons]; omega
    · split
      · simp only [List.length_append, List.length_cons, List.length_nil]; omega
      · simp only [List.length_append, List.length_cons]; omega
end Go.Proofs.YthhnhbpmpdminaaGreatDoor
