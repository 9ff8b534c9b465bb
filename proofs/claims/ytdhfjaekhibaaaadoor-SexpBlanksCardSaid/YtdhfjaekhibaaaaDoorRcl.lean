/-
What is read is clean, and its text is short. Conditions: none.
-/
import Derived.Test.YtdhfjaekhibaaaaDoorBck
namespace Go.Proofs.YtdhfjaekhibaaaaDoor
set_option maxRecDepth 4096

theorem wordB_of_plain {l : List UInt8} (hne : l ≠ []) (h : ∀ b ∈ l, plainB b = true) : wordB l = true := by
  cases l with
  | nil => exact absurd rfl hne
  | cons a m =>
    have ha := h a (List.mem_cons_self ..)
    unfold wordB
    rw [if_neg (by
      rintro ⟨_, h0, _⟩
      have : a = 124 := by simpa using h0
      subst this
      exact absurd ha (by decide))]
    have : scan plainB (a :: m) 0 = 0 + (a :: m).length := scan_app (r := []) (by simp) h (fun _ _ e => by cases e)
    rw [this]; simp
theorem wordB_of_bar {m : List UInt8} (h : ∀ b ∈ m, notBar b = true) : wordB (124 :: (m ++ [124])) = true := by
  unfold wordB
  rw [if_pos ⟨by simp, by simp, by simp⟩]
  have : scan notBar (124 :: (m ++ [124])) 1 = 1 + m.length := scan_app (r := [124]) (by simp) h (fun _ _ e => by cases e; decide)
  rw [this]; simp; omega

def GS : List (Nat × List Sx) → Prop
  | [] => True
  | x :: r => cleanL (200 - r.length) x.2 = true ∧ GS r
def stkW : List (Nat × List Sx) → Nat
  | [] => 0
  | x :: r => (prT x.2).length + 2 + stkW r
structure Gd (p : PSt) : Prop where
  deep : p.stk.length ≤ 200
  cur : cleanL (200 - p.stk.length) p.cur = true
  stk : GS p.stk
  wgt : (prT p.cur).length + stkW p.stk ≤ 2 * p.i

theorem prT_snoc (l : List Sx) (x : Sx) : (prT (l ++ [x])).length = (prT l).length + 1 + (pr x).length := by
  rw [prT_append]; simp [prT]; omega
theorem prL_le (l : List Sx) : (prL l).length ≤ (prT l).length := by
  cases l with
  | nil => simp [prL, prT]
  | cons k r => simp [prL, prT]
theorem clean_snoc {d : Nat} {l : List Sx} {x : Sx} (h : cleanL d l = true) (hx : cleanB d x = true) : cleanL d (l ++ [x]) = true := by
  rw [cleanL_append, h]; simp [cleanL, hx]
theorem clean_wordSx {d : Nat} {w : ByteArray} (h : wordB w.data.toList = true) : cleanB d (wordSx w) = true := by
  simp [wordSx, cleanB, h]
theorem pr_wordSx (w : ByteArray) : (pr (wordSx w)).length = w.data.toList.length := by simp [wordSx, pr]

/-- A word laid into the list. -/
theorem Gd.word {p : PSt} {w : ByteArray} {j : Nat} (h : Gd p) (hw : wordB w.data.toList = true) (hj : j = p.i + w.data.toList.length) : Gd ⟨j, p.cur ++ [wordSx w], p.stk⟩ := by
  have hne : 1 ≤ w.data.toList.length := by
    cases he : w.data.toList with
    | nil => rw [he] at hw; exact absurd hw (by decide)
    | cons a b => simp
  have := h.wgt
  refine ⟨h.deep, clean_snoc h.cur (clean_wordSx hw), h.stk, ?_⟩
  show (prT (p.cur ++ [wordSx w])).length + stkW p.stk ≤ 2 * j
  rw [prT_snoc, pr_wordSx, hj]; omega

theorem drop_get {t : List UInt8} {i : Nat} {b : UInt8} (h : t[i]? = some b) : t.drop i = b :: t.drop (i + 1) := by
  have hi := (List.getElem?_eq_some_iff.1 h)
  obtain ⟨h1, h2⟩ := hi
  rw [List.drop_eq_getElem_cons h1, h2]

theorem pstep_gd {t : List UInt8} {p q : PSt} {b : UInt8} (hp : Gd p) (hb : t[p.i]? = some b) (h : pstep t p b = .ok q) : Gd q := by
  have hd := drop_get hb
  have hw := hp.wgt
  unfold pstep at h
  split at h
  · injection h with h; subst h
    exact ⟨hp.deep, hp.cur, hp.stk, by simp; omega⟩
  split at h
  · injection h with h; subst h
    have := scan_ge notEol t p.i
    exact ⟨hp.deep, hp.cur, hp.stk, by simp; omega⟩
  split at h
  · split at h
    · cases h
    · injection h with h; subst h
      have hdp := hp.deep
      refine ⟨by simp; omega, by simp [cleanL], ⟨hp.cur, hp.stk⟩, ?_⟩
      simp [prT, stkW]; omega
  split at h
  · split at h
    · cases h
    · rename_i e l r hst
      injection h with h; subst h
      have hdp := hp.deep
      have hcur := hp.cur
      have hstk := hp.stk
      rw [hst] at hdp hcur hstk hw
      have hdl : r.length + 1 ≤ 200 := by simpa using hdp
      refine ⟨by simp; omega, clean_snoc hstk.1 ?_, hstk.2, ?_⟩
      · simp only [listSx, cleanB, if_true, Bool.and_eq_true, beq_iff_eq, decide_eq_true_eq]
        refine ⟨⟨rfl, by omega⟩, ?_⟩
        rw [show 200 - r.length - 1 = 200 - (r.length + 1) by omega]
        exact hcur
      · show (prT (l ++ [listSx p.cur])).length + stkW r ≤ 2 * (p.i + 1)
        have := prL_le p.cur
        simp [stkW] at hw
        rw [prT_snoc]
        simp [listSx, pr]
        omega
  split at h
  · rename_i h124
    split at h
    · rename_i hbar
      injection h with h; subst h
      have hb124 : b = 124 := eq_of_beq h124
      subst hb124
      have hs1 : t.drop (p.i + 1) = (t.drop (p.i + 1)).takeWhile notBar ++ (t.drop (p.i + 1)).dropWhile notBar := List.takeWhile_append_dropWhile.symm
      generalize hm : (t.drop (p.i + 1)).takeWhile notBar = m at hs1
      have hin : ∀ c ∈ m, notBar c = true := fun c hc => of_take (hm ▸ hc)
      have hscan : scan notBar t (p.i + 1) = p.i + 1 + m.length := by unfold scan; rw [hm]
      have hrest : ∃ r, (t.drop (p.i + 1)).dropWhile notBar = 124 :: r := by
        have h1 := tail_of hs1
        rw [hscan] at hbar
        have h2 := drop_get hbar
        rw [h2] at h1
        exact ⟨_, h1.symm⟩
      obtain ⟨r, hr⟩ := hrest
      rw [hr] at hs1
      have hall : t.drop p.i = (124 :: (m ++ [124])) ++ r := by rw [hd, hs1]; simp
      have hend : scan notBar t (p.i + 1) + 1 = p.i + (124 :: (m ++ [124])).length := by rw [hscan]; simp; omega
      rw [hend, cut_app hall]
      exact Gd.word hp (wordB_of_bar hin) (by simp)
    · cases h
  split at h
  · rename_i hpl
    injection h with h; subst h
    have hs1 : t.drop p.i = (t.drop p.i).takeWhile plainB ++ (t.drop p.i).dropWhile plainB := List.takeWhile_append_dropWhile.symm
    generalize hm : (t.drop p.i).takeWhile plainB = m at hs1
    have hin : ∀ c ∈ m, plainB c = true := fun c hc => of_take (hm ▸ hc)
    have hscan : scan plainB t p.i = p.i + m.length := by unfold scan; rw [hm]
    have hne : m ≠ [] := by
      rw [← hm, hd, List.takeWhile_cons, if_pos hpl]; simp
    rw [hscan, cut_app hs1]
    exact Gd.word hp (wordB_of_plain hne hin) (by simp)
  · cases h

theorem prun_gd (t : List UInt8) : ∀ (f : Nat) (p q : PSt), Gd p → p.i ≤ t.length → p.Ok t → prun t f p = .ok q → Gd q ∧ q.i ≤ t.length
  | 0, p, q, hp, hi, _, h => by
    simp only [prun] at h
    injection h with h; subst h; exact ⟨hp, hi⟩
  | f + 1, p, q, hp, hi, hk, h => by
    unfold prun at h
    split at h
    · injection h with h; subst h; exact ⟨hp, hi⟩
    · rename_i b hb
      split at h
      · cases h
      · rename_i q1 hq1
        obtain ⟨h1, h2⟩ := pstep_ok hk hb hq1
        exact prun_gd t f q1 q (pstep_gd hp hb hq1) h1.le h1 h

theorem parse_clean {t : List UInt8} {L : List Sx} (h : parse t = .ok L) : cleanL 200 L = true ∧ (prT L).length ≤ 2 * t.length := by
  unfold parse at h
  split at h
  · cases h
  split at h
  · cases h
  · rename_i q hq
    obtain ⟨h1, h2⟩ := prun_gd t t.length ⟨0, [], []⟩ q ⟨by simp, by simp [cleanL], trivial, by simp [prT, stkW]⟩ (Nat.zero_le _) ⟨Nat.zero_le _, by simp, by simp, by simp⟩ hq
    obtain ⟨i, cur, stk⟩ := q
    cases stk with
    | nil =>
      injection h with h
      have hc := h1.cur
      have hw := h1.wgt
      simp [stkW] at hw
      have h2' : i ≤ t.length := h2
      subst h
      exact ⟨hc, Nat.le_trans hw (by omega)⟩
    | cons x r => cases h
end Go.Proofs.YtdhfjaekhibaaaaDoor
