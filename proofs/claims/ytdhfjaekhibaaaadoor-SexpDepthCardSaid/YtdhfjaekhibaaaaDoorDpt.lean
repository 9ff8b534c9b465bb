/-
Brackets in brackets, read by the plain reader. Conditions: how many.
-/
import Derived.Test.YtdhfjaekhibaaaaDoorPrs
namespace Go.Proofs.YtdhfjaekhibaaaaDoor
set_option maxRecDepth 4096

def opens : Nat → List (Nat × List Sx)
  | 0 => []
  | n + 1 => (n, []) :: opens n
theorem opens_length : ∀ n, (opens n).length = n
  | 0 => rfl
  | n + 1 => by simp [opens, opens_length n]
def nest : Nat → List Sx
  | 0 => []
  | n + 1 => [listSx (nest n)]
theorem nest_length (n : Nat) : (nest n).length = min n 1 := by
  cases n with
  | zero => rfl
  | succ n => simp [nest]

def opn (n : Nat) : List UInt8 := List.replicate n 40
def cls (n : Nat) : List UInt8 := List.replicate n 41
theorem get_opn {n m i : Nat} (h : i < n) : (opn n ++ cls m)[i]? = some 40 := by
  rw [List.getElem?_append_left (by simpa [opn] using h), opn, List.getElem?_replicate, if_pos h]
theorem get_cls {n m j : Nat} (h : j < m) : (opn n ++ cls m)[n + j]? = some 41 := by
  rw [List.getElem?_append_right (by simp [opn]), cls, List.getElem?_replicate, if_pos (by simp [opn]; exact h)]

/-- The opening ones. -/
theorem run_opn (n m : Nat) (h : n ≤ 200) : ∀ (i f : Nat), i ≤ n → prun (opn n ++ cls m) (f + i) ⟨n - i, [], opens (n - i)⟩ = prun (opn n ++ cls m) f ⟨n, [], opens n⟩
  | 0, f, _ => rfl
  | i + 1, f, hi => by
    have hs : pstep (opn n ++ cls m) ⟨n - (i + 1), [], opens (n - (i + 1))⟩ 40 = .ok ⟨n - (i + 1) + 1, [], (n - (i + 1), []) :: opens (n - (i + 1))⟩ := by
      unfold pstep
      simp only [opens_length]
      rw [if_neg (by decide), if_neg (by decide), if_pos (by decide), if_neg (by omega)]
    rw [show f + (i + 1) = (f + i) + 1 by omega, prun_ok (get_opn (by simp; omega)) hs]
    have := run_opn n m h i f (by omega)
    rw [show n - i = (n - (i + 1)) + 1 by omega] at this
    exact this

/-- The closing ones. -/
theorem run_cls (n : Nat) : ∀ (j k f : Nat), k + j = n → prun (opn n ++ cls n) (f + j) ⟨n + k, nest k, opens j⟩ = prun (opn n ++ cls n) f ⟨n + n, nest n, []⟩
  | 0, k, f, h => by
    rw [show k = n by omega]; rfl
  | j + 1, k, f, h => by
    have hs : pstep (opn n ++ cls n) ⟨n + k, nest k, opens (j + 1)⟩ 41 = .ok ⟨n + k + 1, nest (k + 1), opens j⟩ := by
      unfold pstep
      rw [if_neg (by decide), if_neg (by decide), if_neg (by decide), if_pos (by decide)]
      rfl
    rw [show f + (j + 1) = (f + j) + 1 by omega, prun_ok (get_cls (by omega)) hs]
    exact run_cls n j (k + 1) f (by omega)

theorem parse_nest (n : Nat) (h : n ≤ 200) : parse (opn n ++ cls n) = .ok (nest n) := by
  unfold parse
  have hl : (opn n ++ cls n).length = n + n := by simp [opn, cls]
  rw [hl, if_neg (by omega)]
  have h1 := run_opn n n h n n (Nat.le_refl _)
  rw [Nat.sub_self] at h1
  have h2 := run_cls n n 0 0 (by omega)
  rw [Nat.zero_add] at h2
  rw [show (⟨0, [], []⟩ : PSt) = ⟨0, [], opens 0⟩ from rfl, h1]
  rw [show (⟨n, [], opens n⟩ : PSt) = ⟨n + 0, nest 0, opens n⟩ from rfl, h2]
  rfl

theorem parse_opn (n : Nat) (h : n ≤ 200) : parse (opn n) = if n = 0 then .ok [] else .error (n - 1, 20) := by
  have e : opn n = opn n ++ cls 0 := by simp [cls]
  rw [e]
  unfold parse
  have hl : (opn n ++ cls 0).length = n := by simp [opn, cls]
  rw [hl, if_neg (by omega)]
  have h1 := run_opn n 0 h n 0 (Nat.le_refl _)
  rw [Nat.sub_self, Nat.zero_add] at h1
  rw [show (⟨0, [], []⟩ : PSt) = ⟨0, [], opens 0⟩ from rfl, h1]
  cases n with
  | zero => rfl
  | succ n => simp [prun, pfin, opens]

theorem parse_deep (n : Nat) (h : 200 < n) (h2 : n ≤ 400) : parse (opn n ++ cls n) = .error (200, 23) := by
  unfold parse
  have hl : (opn n ++ cls n).length = n + n := by simp [opn, cls]
  rw [hl, if_neg (by omega)]
  have key : ∀ (i f : Nat), i ≤ 200 → prun (opn n ++ cls n) (f + i) ⟨200 - i, [], opens (200 - i)⟩ = prun (opn n ++ cls n) f ⟨200, [], opens 200⟩ := by
    intro i
    induction i with
    | zero => intro f _; rfl
    | succ i ih =>
      intro f hi
      have hs : pstep (opn n ++ cls n) ⟨200 - (i + 1), [], opens (200 - (i + 1))⟩ 40 = .ok ⟨200 - (i + 1) + 1, [], (200 - (i + 1), []) :: opens (200 - (i + 1))⟩ := by
        unfold pstep
        simp only [opens_length]
        rw [if_neg (by decide), if_neg (by decide), if_pos (by decide), if_neg (by omega)]
      rw [show f + (i + 1) = (f + i) + 1 by omega, prun_ok (get_opn (by simp; omega)) hs]
      have := ih f (by omega)
      rw [show 200 - i = (200 - (i + 1)) + 1 by omega] at this
      exact this
  have h1 := key 200 (n + n - 200) (Nat.le_refl _)
  rw [Nat.sub_self, show n + n - 200 + 200 = n + n by omega] at h1
  rw [show (⟨0, [], []⟩ : PSt) = ⟨0, [], opens 0⟩ from rfl, h1]
  have hs : pstep (opn n ++ cls n) ⟨200, [], opens 200⟩ 40 = .error (200, 23) := by
    unfold pstep
    simp only [opens_length]
    rw [if_neg (by decide), if_neg (by decide), if_pos (by decide), if_pos trivial]
  rw [show n + n - 200 = (n + n - 201) + 1 by omega, prun_err (get_opn (by simp; omega)) hs]
end Go.Proofs.YtdhfjaekhibaaaaDoor
