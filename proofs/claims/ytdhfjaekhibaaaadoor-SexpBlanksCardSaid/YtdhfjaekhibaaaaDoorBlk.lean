/-
Blanks and remarks between clean things say nothing. Conditions: depth, the text's length.
-/
import Derived.Test.YtdhfjaekhibaaaaDoorBck
namespace Go.Proofs.YtdhfjaekhibaaaaDoor
set_option maxRecDepth 4096

inductive Noise : List UInt8 → Prop
  | nil : Noise []
  | blank (b : UInt8) (r : List UInt8) : blankB b = true → Noise r → Noise (b :: r)
  | remark (m r : List UInt8) : (∀ c ∈ m, notEol c = true) → Noise (10 :: r) → Noise (59 :: (m ++ 10 :: r))

theorem Noise.steps {u : List UInt8} (h : Noise u) : ∀ (t : List UInt8) (p : PSt) (post : List UInt8), t.drop p.i = u ++ post → Steps t p { p with i := p.i + u.length } := by
  induction h with
  | nil => intro t p post _; exact Steps.refl _ _
  | blank b r hb _ ih =>
    intro t p post ht
    have s0 : Steps t p { p with i := p.i + 1 } := by
      refine Steps.one (head_of (r := r ++ post) (by simpa using ht)) ?_ (by simp)
      unfold pstep
      rw [if_pos hb]
    have ht1 : t.drop (p.i + 1) = r ++ post := tail_of (a := [b]) (by simpa using ht)
    have := s0.trans (ih t { p with i := p.i + 1 } post ht1)
    simpa [Nat.add_assoc, Nat.add_comm, Nat.add_left_comm] using this
  | remark m r hm _ ih =>
    intro t p post ht
    have ht' : t.drop p.i = (59 :: m) ++ (10 :: (r ++ post)) := by rw [ht]; simp
    have hsc : scan notEol t p.i = p.i + (59 :: m).length := scan_app ht' (fun b hb => by
      rcases List.mem_cons.1 hb with rfl | hb
      · decide
      · exact hm b hb) (fun b r' e => by cases e; decide)
    have s0 : Steps t p { p with i := p.i + (59 :: m).length } := by
      refine Steps.one (head_of (r := m ++ (10 :: (r ++ post))) (by simpa using ht')) (b := 59) ?_ (by simp)
      unfold pstep
      rw [if_neg (by decide), if_pos (by decide), hsc]
    have ht1 : t.drop (p.i + (59 :: m).length) = (10 :: r) ++ post := by rw [tail_of ht']; simp
    have := s0.trans (ih t { p with i := p.i + (59 :: m).length } post ht1)
    have e : p.i + (59 :: m).length + (10 :: r).length = p.i + (59 :: (m ++ 10 :: r)).length := by simp; omega
    rw [← e]
    exact this

def Sep (s : List UInt8) : Prop := s = [32] ∨ s = [9, 13, 10, 32] ∨ s = [10, 59, 124, 32, 40, 10] ∨ s = [32, 59, 32, 41, 10, 10]
theorem Sep.noise {s : List UInt8} (h : Sep s) : Noise s := by
  rcases h with rfl | rfl | rfl | rfl
  · exact .blank _ _ (by decide) .nil
  · exact .blank _ _ (by decide) (.blank _ _ (by decide) (.blank _ _ (by decide) (.blank _ _ (by decide) .nil)))
  · exact .blank _ _ (by decide) (.remark [124, 32, 40] [] (by decide) (.blank _ _ (by decide) .nil))
  · exact .blank _ _ (by decide) (.remark [32, 41] [10] (by decide) (.blank _ _ (by decide) (.blank _ _ (by decide) .nil)))
theorem Sep.npl {s : List UInt8} (h : Sep s) (r : List UInt8) : npl (s ++ r) := by
  rcases h with rfl | rfl | rfl | rfl <;> exact npl_cons (by decide)
theorem Sep.len {s : List UInt8} (h : Sep s) : s.length ≤ 6 := by
  rcases h with rfl | rfl | rfl | rfl <;> decide

def cat : List Sx → List (List UInt8) → List UInt8
  | k :: r, s :: ss => pr k ++ (s ++ cat r ss)
  | _, _ => []
theorem cat_snoc : ∀ (l : List Sx) (ss : List (List UInt8)) (k : Sx) (s : List UInt8), l.length = ss.length → cat (l ++ [k]) (ss ++ [s]) = cat l ss ++ (pr k ++ s)
  | [], [], k, s, _ => by simp [cat]
  | a :: r, b :: ss, k, s, h => by simp [cat, cat_snoc r ss k s (by simpa using h)]

theorem steps_cat : ∀ (l : List Sx) (ss : List (List UInt8)) (t : List UInt8) (p : PSt) (post : List UInt8), l.length = ss.length → (∀ s ∈ ss, Sep s) → cleanL 100 l = true → p.stk.length + 100 ≤ 200 → t.drop p.i = cat l ss ++ post →
    Steps t p ⟨p.i + (cat l ss).length, p.cur ++ l, p.stk⟩
  | [], [], t, p, post, _, _, _, _, _ => by simp [cat]; exact Steps.refl _ _
  | k :: r, s :: ss, t, p, post, hl, hs, hc, hd, ht => by
    simp only [cleanL, Bool.and_eq_true] at hc
    simp only [cat, List.append_assoc] at ht ⊢
    have hsep := hs s (List.mem_cons_self ..)
    have s1 := steps_tree k 100 t p _ hc.1 hd ht (hsep.npl _)
    have ht1 := tail_of ht
    have s2 := hsep.noise.steps t ⟨p.i + (pr k).length, p.cur ++ [k], p.stk⟩ _ ht1
    have ht2 := tail_of ht1
    have s3 := steps_cat r ss t ⟨p.i + (pr k).length + s.length, p.cur ++ [k], p.stk⟩ post (by simpa using hl) (fun x hx => hs x (List.mem_cons_of_mem _ hx)) hc.2 hd ht2
    have := (s1.trans s2).trans s3
    simpa [Nat.add_assoc] using this

def headT : List UInt8 := [59, 32, 102, 105, 114, 115, 116, 32, 41, 40, 10]
def endT : List UInt8 := [59, 101, 110, 100]
theorem parse_blanks (L : List Sx) (ss : List (List UInt8)) (hl : L.length = ss.length) (hs : ∀ s ∈ ss, Sep s) (hc : cleanL 100 L = true) (hlen : (headT ++ cat L ss ++ endT).length ≤ 65536) :
    parse (headT ++ cat L ss ++ endT) = .ok L := by
  refine parse_of hlen ?_
  generalize ht : headT ++ cat L ss ++ endT = t
  have h0 : t.drop 0 = headT ++ (cat L ss ++ endT) := by rw [← ht]; simp
  have hn : Noise headT := .remark [32, 102, 105, 114, 115, 116, 32, 41, 40] [] (by decide) (.blank _ _ (by decide) .nil)
  have s1 := hn.steps t ⟨0, [], []⟩ _ h0
  have h1 : t.drop (0 + headT.length) = cat L ss ++ endT := tail_of h0
  have s2 := steps_cat L ss t ⟨0 + headT.length, [], []⟩ endT hl hs hc (by simp) h1
  have h2 : t.drop (0 + headT.length + (cat L ss).length) = endT := tail_of h1
  have hsz : t.length = 0 + headT.length + (cat L ss).length + endT.length := by rw [← ht]; simp; omega
  have s3 : Steps t ⟨0 + headT.length + (cat L ss).length, [] ++ L, []⟩ ⟨t.length, L, []⟩ := by
    refine Steps.one (head_of (r := [101, 110, 100]) h2) (b := 59) ?_ (by simp [hsz, endT])
    unfold pstep
    rw [if_neg (by decide), if_pos (by decide)]
    have : scan notEol t (0 + headT.length + (cat L ss).length) = 0 + headT.length + (cat L ss).length + endT.length := scan_app (r := []) (by simpa using h2) (by decide) (fun _ _ e => by cases e)
    rw [show (⟨0 + headT.length + (cat L ss).length, [] ++ L, []⟩ : PSt).i = 0 + headT.length + (cat L ss).length from rfl, this, ← hsz]
    rfl
  exact (s1.trans s2).trans s3

theorem cat_len : ∀ (l : List Sx) (ss : List (List UInt8)), (∀ s ∈ ss, Sep s) → (cat l ss).length ≤ (prT l).length + 6 * l.length
  | [], ss, _ => by simp [cat]
  | k :: r, [], _ => by simp [cat]
  | k :: r, s :: ss, h => by
    have h1 := (h s (List.mem_cons_self ..)).len
    have h2 := cat_len r ss (fun x hx => h x (List.mem_cons_of_mem _ hx))
    simp [cat, prT]; omega
end Go.Proofs.YtdhfjaekhibaaaaDoor
