/-
A right text, cut: what the plain reader says of it. Conditions: none.
-/
import Derived.Test.YtdhfjaekhibaaaaDoorPrs
namespace Go.Proofs.YtdhfjaekhibaaaaDoor
set_option maxRecDepth 4096

theorem scan_take (f : UInt8 → Bool) (t : List UInt8) (k i : Nat) (h : i ≤ k) : scan f (t.take k) i = min (scan f t i) k := by
  unfold scan
  rw [List.drop_take, ← List.take_takeWhile, List.length_take]
  omega
theorem cut_take (t : List UInt8) (k i j : Nat) (h : j ≤ k) : cut (t.take k) i j = cut t i j := by
  unfold cut
  rw [List.drop_take, List.take_take, Nat.min_eq_left (by omega)]
theorem get_take {t : List UInt8} {k i : Nat} (h : i < k) : (t.take k)[i]? = t[i]? := by
  rw [List.getElem?_take, if_pos h]

def gd (u : List UInt8) : Except (Nat × Nat) (List Sx) → Prop
  | .ok _ => True
  | .error (a, n) => (n = 20 ∧ u[a]? = some 40) ∨ (n = 22 ∧ u[a]? = some 124)
def frun (u : List UInt8) (f : Nat) (p : PSt) : Except (Nat × Nat) (List Sx) := match prun u f p with
  | .error e => .error e
  | .ok q => pfin q
def Bg (u : List UInt8) (p : PSt) : Prop := ∀ x, x ∈ p.stk → u[x.1]? = some 40

theorem gd_fin {u : List UInt8} {p : PSt} (h : Bg u p) : gd u (pfin p) := by
  obtain ⟨i, cur, stk⟩ := p
  cases stk with
  | nil => trivial
  | cons x r => exact .inl ⟨rfl, h x (List.mem_cons_self ..)⟩
theorem gd_end {u : List UInt8} {p : PSt} (h : Bg u p) (hi : u.length ≤ p.i) (f : Nat) : gd u (frun u f p) := by
  unfold frun
  rw [prun_end hi]
  exact gd_fin h
theorem frun_ok {u : List UInt8} {p q : PSt} {b : UInt8} {f : Nat} (hb : u[p.i]? = some b) (hs : pstep u p b = .ok q) : frun u (f + 1) p = frun u f q := by
  unfold frun
  rw [prun_ok hb hs]

theorem gd_cut (t : List UInt8) (k : Nat) (hk : k ≤ t.length) : ∀ (f' f : Nat) (p : PSt), f' ≤ f → p.i ≤ k → Bg (t.take k) p → (∃ q, prun t f p = .ok q) → gd (t.take k) (frun (t.take k) f' p)
  | 0, f, p, _, _, hB, _ => gd_fin hB
  | f' + 1, f, p, hf, hi, hB, hrun => by
    have hlen : (t.take k).length = k := by rw [List.length_take]; omega
    by_cases hik : p.i = k
    · exact gd_end hB (by omega) _
    obtain ⟨f, rfl⟩ : ∃ g, f = g + 1 := ⟨f - 1, by omega⟩
    have hlt : p.i < t.length := by omega
    have hb : t[p.i]? = some t[p.i] := List.getElem?_eq_getElem hlt
    have hbu : (t.take k)[p.i]? = some t[p.i] := by rw [get_take (by omega)]; exact hb
    generalize hbe : t[p.i] = b at hb hbu
    have hgo : ∀ q, pstep t p b = .ok q → pstep (t.take k) p b = .ok q → q.i ≤ k → Bg (t.take k) q → gd (t.take k) (frun (t.take k) (f' + 1) p) := by
      intro q h1 h2 h3 h4
      rw [frun_ok hbu h2]
      refine gd_cut t k hk f' f q (by omega) h3 h4 ?_
      rw [prun_ok hb h1] at hrun
      exact hrun
    have hstop : ∀ q, pstep (t.take k) p b = .ok q → q.i = k → Bg (t.take k) q → gd (t.take k) (frun (t.take k) (f' + 1) p) := by
      intro q h1 h2 h3
      rw [frun_ok hbu h1]
      exact gd_end h3 (by omega) _
    have hno : ∀ e, pstep t p b = .error e → False := by
      intro e h
      rw [prun_err hb h] at hrun
      obtain ⟨q, hq⟩ := hrun
      cases hq
    by_cases h0 : blankB b = true
    · exact hgo { p with i := p.i + 1 } (by unfold pstep; rw [if_pos h0]) (by unfold pstep; rw [if_pos h0]) (by simp; omega) hB
    by_cases h59 : (b == 59) = true
    · by_cases hj : scan notEol t p.i ≤ k
      · exact hgo { p with i := scan notEol t p.i } (by unfold pstep; rw [if_neg h0, if_pos h59]) (by unfold pstep; rw [if_neg h0, if_pos h59, scan_take _ _ _ _ hi, Nat.min_eq_left hj]) hj hB
      · exact hstop { p with i := k } (by unfold pstep; rw [if_neg h0, if_pos h59, scan_take _ _ _ _ hi, Nat.min_eq_right (by omega)]) rfl hB
    by_cases h40 : (b == 40) = true
    · by_cases hd : p.stk.length = 200
      · exact (hno (p.i, 23) (by unfold pstep; rw [if_neg h0, if_neg h59, if_pos h40, if_pos hd])).elim
      · refine hgo ⟨p.i + 1, [], (p.i, p.cur) :: p.stk⟩ (by unfold pstep; rw [if_neg h0, if_neg h59, if_pos h40, if_neg hd]) (by unfold pstep; rw [if_neg h0, if_neg h59, if_pos h40, if_neg hd]) (by simp; omega) ?_
        intro x hx
        rcases List.mem_cons.1 hx with rfl | hx
        · rw [hbu, eq_of_beq h40]
        · exact hB x hx
    by_cases h41 : (b == 41) = true
    · cases hst : p.stk with
      | nil => exact (hno (p.i, 21) (by unfold pstep; rw [if_neg h0, if_neg h59, if_neg h40, if_pos h41, hst])).elim
      | cons x r =>
        obtain ⟨q, l⟩ := x
        refine hgo ⟨p.i + 1, l ++ [listSx p.cur], r⟩ (by unfold pstep; rw [if_neg h0, if_neg h59, if_neg h40, if_pos h41, hst]) (by unfold pstep; rw [if_neg h0, if_neg h59, if_neg h40, if_pos h41, hst]) (by simp; omega) ?_
        intro x hx
        exact hB x (by rw [hst]; exact List.mem_cons_of_mem _ hx)
    by_cases h124 : (b == 124) = true
    · have hi1 : p.i + 1 ≤ k := by omega
      by_cases hy : t[scan notBar t (p.i + 1)]? = some 124
      · by_cases hj : scan notBar t (p.i + 1) < k
        · have hsu : scan notBar (t.take k) (p.i + 1) = scan notBar t (p.i + 1) := by rw [scan_take _ _ _ _ hi1, Nat.min_eq_left (by omega)]
          refine hgo ⟨scan notBar t (p.i + 1) + 1, p.cur ++ [wordSx (cut t p.i (scan notBar t (p.i + 1) + 1))], p.stk⟩ (by unfold pstep; rw [if_neg h0, if_neg h59, if_neg h40, if_neg h41, if_pos h124, if_pos hy]) ?_ (by simp; omega) hB
          unfold pstep
          rw [if_neg h0, if_neg h59, if_neg h40, if_neg h41, if_pos h124, hsu, get_take hj, if_pos hy, cut_take _ _ _ _ (by omega)]
        · have hsu : scan notBar (t.take k) (p.i + 1) = k := by rw [scan_take _ _ _ _ hi1, Nat.min_eq_right (by omega)]
          have he : pstep (t.take k) p b = .error (p.i, 22) := by
            unfold pstep
            rw [if_neg h0, if_neg h59, if_neg h40, if_neg h41, if_pos h124, hsu, List.getElem?_eq_none (by omega), if_neg (by simp)]
          unfold frun
          rw [prun_err hbu he]
          exact .inr ⟨rfl, by rw [hbu, eq_of_beq h124]⟩
      · exact (hno (p.i, 22) (by unfold pstep; rw [if_neg h0, if_neg h59, if_neg h40, if_neg h41, if_pos h124, if_neg hy])).elim
    by_cases hpl : plainB b = true
    · by_cases hj : scan plainB t p.i ≤ k
      · refine hgo ⟨scan plainB t p.i, p.cur ++ [wordSx (cut t p.i (scan plainB t p.i))], p.stk⟩ (by unfold pstep; rw [if_neg h0, if_neg h59, if_neg h40, if_neg h41, if_neg h124, if_pos hpl]) ?_ hj hB
        unfold pstep
        rw [if_neg h0, if_neg h59, if_neg h40, if_neg h41, if_neg h124, if_pos hpl, scan_take _ _ _ _ hi, Nat.min_eq_left hj, cut_take _ _ _ _ hj]
      · refine hstop ⟨k, p.cur ++ [wordSx (cut (t.take k) p.i k)], p.stk⟩ ?_ rfl hB
        unfold pstep
        rw [if_neg h0, if_neg h59, if_neg h40, if_neg h41, if_neg h124, if_pos hpl, scan_take _ _ _ _ hi, Nat.min_eq_right (by omega)]
    · exact (hno (p.i, 22) (by unfold pstep; rw [if_neg h0, if_neg h59, if_neg h40, if_neg h41, if_neg h124, if_neg hpl])).elim

theorem parse_cut (t : List UInt8) (k : Nat) (hk : k ≤ t.length) (hl : t.length ≤ 65536) (L : List Sx) (h : parse t = .ok L) : gd (t.take k) (parse (t.take k)) := by
  have hlen : (t.take k).length = k := by rw [List.length_take]; omega
  have hr : ∃ q, prun t t.length ⟨0, [], []⟩ = .ok q := by
    unfold parse at h
    rw [if_neg (by omega)] at h
    split at h
    · cases h
    · exact ⟨_, by assumption⟩
  have := gd_cut t k hk k t.length ⟨0, [], []⟩ hk (Nat.zero_le _) (fun x hx => by cases hx) hr
  unfold parse
  rw [hlen, if_neg (by omega)]
  exact this
end Go.Proofs.YtdhfjaekhibaaaaDoor
