/-
A clean thing's text is read as the thing; what is read is clean. Conditions: depth.
-/
import Derived.Test.YtdhfjaekhibaaaaDoorCln
import Derived.Test.YtdhfjaekhibaaaaDoorPrn
import Derived.Test.YtdhfjaekhibaaaaDoorPrs
namespace Go.Proofs.YtdhfjaekhibaaaaDoor
set_option maxRecDepth 4096

/-- So many steps of the reader, none without going on. -/
def Steps (t : List UInt8) (p q : PSt) : Prop := ∃ n, n + p.i ≤ q.i ∧ ∀ f, prun t (f + n) p = prun t f q
theorem Steps.refl (t : List UInt8) (p : PSt) : Steps t p p := ⟨0, by omega, fun _ => rfl⟩
theorem Steps.trans {t : List UInt8} {p q r : PSt} (h : Steps t p q) (k : Steps t q r) : Steps t p r := by
  obtain ⟨n, h1, h2⟩ := h
  obtain ⟨m, k1, k2⟩ := k
  refine ⟨m + n, by omega, fun f => ?_⟩
  rw [← Nat.add_assoc, h2, k2]
theorem Steps.one {t : List UInt8} {p q : PSt} {b : UInt8} (hb : t[p.i]? = some b) (hs : pstep t p b = .ok q) (hi : p.i < q.i) : Steps t p q :=
  ⟨1, by omega, fun _ => prun_ok hb hs⟩
theorem parse_of {t : List UInt8} {L : List Sx} (hl : t.length ≤ 65536) (h : Steps t ⟨0, [], []⟩ ⟨t.length, L, []⟩) : parse t = .ok L := by
  obtain ⟨n, h1, h2⟩ := h
  have h1' : n ≤ t.length := by simpa using h1
  unfold parse
  rw [if_neg (by omega), show t.length = (t.length - n) + n by omega, h2, prun_end (by simp)]
  rfl

def npl (post : List UInt8) : Prop := ∀ b r, post = b :: r → plainB b = false
theorem npl_nil : npl [] := fun _ _ h => by cases h
theorem npl_cons {b : UInt8} {r : List UInt8} (h : plainB b = false) : npl (b :: r) := fun b' r' e => by cases e; exact h

theorem head_of {t : List UInt8} {i : Nat} {b : UInt8} {r : List UInt8} (h : t.drop i = b :: r) : t[i]? = some b := by
  have := congrArg (fun l => l[0]?) h
  simpa using this
theorem tail_of {t : List UInt8} {i : Nat} {a r : List UInt8} (h : t.drop i = a ++ r) : t.drop (i + a.length) = r := by
  rw [← List.drop_drop, h, List.drop_left]

theorem scan_app {f : UInt8 → Bool} {t a r : List UInt8} {i : Nat} (h : t.drop i = a ++ r) (ha : ∀ b ∈ a, f b = true) (hr : ∀ b r', r = b :: r' → f b = false) : scan f t i = i + a.length := by
  unfold scan
  rw [h, List.takeWhile_append_of_pos ha]
  cases r with
  | nil => simp
  | cons b r' => simp [hr b r' rfl]
theorem cut_app {t a r : List UInt8} {i : Nat} (h : t.drop i = a ++ r) : cut t i (i + a.length) = ⟨a.toArray⟩ := by
  unfold cut
  rw [h, Nat.add_sub_cancel_left, List.take_left]
theorem all_of_take {f : UInt8 → Bool} : ∀ (l : List UInt8), (l.takeWhile f).length = l.length → ∀ b ∈ l, f b = true
  | [], _, b, hb => by cases hb
  | a :: r, h, b, hb => by
    rw [List.takeWhile_cons] at h
    split at h
    · rename_i ha
      rcases List.mem_cons.1 hb with rfl | hb
      · exact ha
      · exact all_of_take r (by simpa using h) b hb
    · simp at h

theorem of_take {f : UInt8 → Bool} : ∀ {l : List UInt8} {b : UInt8}, b ∈ l.takeWhile f → f b = true
  | [], b, h => by cases h
  | a :: r, b, h => by
    rw [List.takeWhile_cons] at h
    split at h
    · rename_i ha
      rcases List.mem_cons.1 h with rfl | h
      · exact ha
      · exact of_take h
    · cases h

theorem plain_no {b : UInt8} (h : plainB b = true) : ¬ (blankB b = true) ∧ ¬ ((b == 59) = true) ∧ ¬ ((b == 40) = true) ∧ ¬ ((b == 41) = true) ∧ ¬ ((b == 124) = true) := by
  refine ⟨fun hb => ?_, fun e => ?_, fun e => ?_, fun e => ?_, fun e => ?_⟩
  · unfold blankB at hb
    simp only [Bool.or_eq_true, beq_iff_eq] at hb
    rcases hb with ((rfl | rfl) | rfl) | rfl <;> exact absurd h (by decide)
  all_goals
    rw [beq_iff_eq] at e
    subst e
    exact absurd h (by decide)

/-- A word's step. -/
theorem eat_word {t : List UInt8} {p : PSt} {w : ByteArray} {post : List UInt8} (hw : wordB w.data.toList = true) (ht : t.drop p.i = w.data.toList ++ post) (hp : npl post) :
    Steps t p ⟨p.i + w.data.toList.length, p.cur ++ [wordSx w], p.stk⟩ := by
  generalize hl : w.data.toList = l at *
  have hwl : w = ⟨l.toArray⟩ := by rw [← hl]
  unfold wordB at hw
  split at hw
  · rename_i hc
    obtain ⟨h2, h0, h1⟩ := hc
    cases l with
    | nil => simp at h2
    | cons a m =>
      have ha : a = 124 := by simpa using h0
      subst ha
      have hm : m ≠ [] := by intro e; rw [e] at h2; simp at h2
      have hlast : m.getLast hm = 124 := by
        rw [List.getLast_eq_getElem]
        have h1' : (124 :: m)[m.length]? = some 124 := by simpa using h1
        cases m with
        | nil => exact absurd rfl hm
        | cons c m' =>
          have : (c :: m')[m'.length]? = some 124 := by simpa using h1'
          have h3 := List.getElem?_eq_some_iff.1 this
          simpa using h3.2
      have hsplit : m = m.dropLast ++ [124] := by rw [← hlast]; exact (List.dropLast_concat_getLast hm).symm
      have hin : ∀ b ∈ m.dropLast, notBar b = true := by
        have hsc : scan notBar (124 :: m) 1 = (124 :: m).length - 1 := eq_of_beq hw
        have hd : (124 :: m).drop 1 = m := rfl
        unfold scan at hsc
        rw [hd] at hsc
        have hlen : (m.takeWhile notBar).length = m.length - 1 := by simp at hsc; omega
        intro b hb
        have hpre : m.takeWhile notBar <+: m := List.takeWhile_prefix _
        have he : m.takeWhile notBar = m.dropLast := by
          rw [List.prefix_iff_eq_take.1 hpre, hlen, List.dropLast_eq_take]
        rw [← he] at hb
        exact of_take hb
      have hd1 : t.drop (p.i + 1) = m.dropLast ++ (124 :: post) := by
        have := tail_of (a := [124]) (r := m ++ post) (by simpa using ht)
        have this2 : t.drop (p.i + 1) = m ++ post := this
        rw [this2]
        conv => lhs; rw [hsplit]
        simp
      have hscan : scan notBar t (p.i + 1) = p.i + 1 + m.dropLast.length := scan_app hd1 hin (fun b r' e => by cases e; decide)
      have hbar : t[scan notBar t (p.i + 1)]? = some 124 := by
        rw [hscan]; exact head_of (tail_of hd1)
      have hdl : m.dropLast.length = m.length - 1 := by simp
      have hm1 : 1 ≤ m.length := by
        cases m with
        | nil => exact absurd rfl hm
        | cons _ _ => simp
      have hend : scan notBar t (p.i + 1) + 1 = p.i + (124 :: m).length := by rw [hscan, hdl]; simp; omega
      refine Steps.one (head_of (r := m ++ post) (by simpa using ht)) (b := 124) ?_ (by simp)
      unfold pstep
      rw [if_neg (by decide), if_neg (by decide), if_neg (by decide), if_neg (by decide), if_pos (by decide), if_pos hbar, hend, cut_app ht, ← hwl]
  · simp only [Bool.and_eq_true, beq_iff_eq, Bool.not_eq_true'] at hw
    obtain ⟨hne, hsc⟩ := hw
    have hall : ∀ b ∈ l, plainB b = true := by
      refine all_of_take l ?_
      unfold scan at hsc
      simpa using hsc
    cases l with
    | nil => simp at hne
    | cons a m =>
      have ha := hall a (List.mem_cons_self ..)
      obtain ⟨n1, n2, n3, n4, n5⟩ := plain_no ha
      have hscan : scan plainB t p.i = p.i + (a :: m).length := scan_app ht hall hp
      refine Steps.one (head_of (r := m ++ post) (by simpa using ht)) (b := a) ?_ (by simp)
      unfold pstep
      rw [if_neg n1, if_neg n2, if_neg n3, if_neg n4, if_neg n5, if_pos ha, hscan, cut_app ht, ← hwl]

mutual
theorem steps_tree : ∀ (x : Sx) (d : Nat) (t : List UInt8) (p : PSt) (post : List UInt8), cleanB d x = true → p.stk.length + d ≤ 200 → t.drop p.i = pr x ++ post → npl post →
    Steps t p ⟨p.i + (pr x).length, p.cur ++ [x], p.stk⟩
  | ⟨w, false, ks⟩, d, t, p, post, hc, _, ht, hp => by
    simp only [cleanB, Bool.false_eq_true, if_false, Bool.and_eq_true, List.isEmpty_iff] at hc
    obtain ⟨rfl, hw⟩ := hc
    simp only [pr, Bool.false_eq_true, if_false] at ht ⊢
    exact eat_word hw ht hp
  | ⟨w, true, ks⟩, d, t, p, post, hc, hd, ht, _ => by
    simp only [cleanB, if_true, Bool.and_eq_true, beq_iff_eq, decide_eq_true_eq] at hc
    obtain ⟨⟨hw, hd1⟩, hk⟩ := hc
    have hwe : w = ⟨#[]⟩ := by apply ByteArray.ext; exact Array.eq_empty_of_size_eq_zero hw
    subst hwe
    simp only [pr, if_true, List.cons_append, List.append_assoc] at ht ⊢
    have s1 : Steps t p ⟨p.i + 1, [], (p.i, p.cur) :: p.stk⟩ := by
      refine Steps.one (head_of ht) ?_ (by simp)
      unfold pstep
      rw [if_neg (by decide), if_neg (by decide), if_pos (by decide), if_neg (by omega)]
    have ht1 : t.drop (p.i + 1) = prL ks ++ (41 :: post) := by
      have := tail_of (a := [40]) (r := prL ks ++ ([41] ++ post)) (by simpa using ht)
      simpa using this
    have s2 := steps_list ks (d - 1) t ⟨p.i + 1, [], (p.i, p.cur) :: p.stk⟩ (41 :: post) hk (by simp; omega) ht1 (npl_cons (by decide))
    have ht2 := tail_of ht1
    refine (s1.trans s2).trans (Steps.one (head_of ht2) (b := 41) ?_ (by simp; omega))
    unfold pstep
    rw [if_neg (by decide), if_neg (by decide), if_neg (by decide), if_pos (by decide)]
    simp [listSx]; omega
theorem steps_list : ∀ (l : List Sx) (d : Nat) (t : List UInt8) (p : PSt) (post : List UInt8), cleanL d l = true → p.stk.length + d ≤ 200 → t.drop p.i = prL l ++ post → npl post →
    Steps t p ⟨p.i + (prL l).length, p.cur ++ l, p.stk⟩
  | [], d, t, p, post, _, _, _, _ => by simp [prL]; exact Steps.refl _ _
  | k :: r, d, t, p, post, hc, hd, ht, hp => by
    simp only [cleanL, Bool.and_eq_true] at hc
    simp only [prL, List.append_assoc] at ht ⊢
    have hn : npl (prT r ++ post) := by
      cases r with
      | nil => simpa [prT] using hp
      | cons a b => simp only [prT, List.cons_append]; exact npl_cons (by decide)
    have s1 := steps_tree k d t p _ hc.1 hd ht hn
    have s2 := steps_more r d t ⟨p.i + (pr k).length, p.cur ++ [k], p.stk⟩ post hc.2 hd (tail_of ht) hp
    have := s1.trans s2
    simpa [Nat.add_assoc] using this
theorem steps_more : ∀ (l : List Sx) (d : Nat) (t : List UInt8) (p : PSt) (post : List UInt8), cleanL d l = true → p.stk.length + d ≤ 200 → t.drop p.i = prT l ++ post → npl post →
    Steps t p ⟨p.i + (prT l).length, p.cur ++ l, p.stk⟩
  | [], d, t, p, post, _, _, _, _ => by simp [prT]; exact Steps.refl _ _
  | k :: r, d, t, p, post, hc, hd, ht, hp => by
    simp only [cleanL, Bool.and_eq_true] at hc
    simp only [prT, List.append_assoc, List.cons_append] at ht ⊢
    have hn : npl (prT r ++ post) := by
      cases r with
      | nil => simpa [prT] using hp
      | cons a b => simp only [prT, List.cons_append]; exact npl_cons (by decide)
    have s0 : Steps t p { p with i := p.i + 1 } := by
      refine Steps.one (head_of ht) ?_ (by simp)
      unfold pstep
      rw [if_pos (by decide)]
    have ht1 : t.drop (p.i + 1) = pr k ++ (prT r ++ post) := by
      have := tail_of (a := [32]) (r := pr k ++ (prT r ++ post)) (by simpa using ht)
      simpa using this
    have s1 := steps_tree k d t { p with i := p.i + 1 } _ hc.1 hd ht1 hn
    have s2 := steps_more r d t ⟨p.i + 1 + (pr k).length, p.cur ++ [k], p.stk⟩ post hc.2 hd (tail_of ht1) hp
    have := (s0.trans s1).trans s2
    simpa [Nat.add_assoc, Nat.add_comm, Nat.add_left_comm] using this
end

theorem parse_pr (x : Sx) (h : cleanB 200 x = true) (hl : (pr x).length ≤ 65536) : parse (pr x) = .ok [x] := by
  refine parse_of hl ?_
  have := steps_tree x 200 (pr x) ⟨0, [], []⟩ [] h (Nat.le_refl _) (by simp) npl_nil
  simpa using this
theorem parse_prT (L : List Sx) (h : cleanL 200 L = true) (hl : (prT L).length ≤ 65536) : parse (prT L) = .ok L := by
  refine parse_of hl ?_
  have := steps_more L 200 (prT L) ⟨0, [], []⟩ [] h (Nat.le_refl _) (by simp) npl_nil
  simpa using this
end Go.Proofs.YtdhfjaekhibaaaaDoor
