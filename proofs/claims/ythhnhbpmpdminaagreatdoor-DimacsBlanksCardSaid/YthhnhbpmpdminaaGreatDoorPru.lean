/-
Parse of package sexp: what the plain reader says. Conditions: the text's bytes can be counted by an int.
-/
import Derived.Test.YthhnhbpmpdminaaGreatDoorLay0
import Derived.Lib.Strings
namespace Go.Proofs.YthhnhbpmpdminaaGreatDoor
set_option maxRecDepth 4096
open Go.RowKit Go.Proofs.YthhnhbpmpdminaaGreatDoorW.PrintWords

theorem extract_cut (s : ByteArray) (i j : Nat) : s.extract i j = cut s.data.toList i j := by
  apply ByteArray.ext
  apply Array.ext'
  rw [Lib.extract_data]; rfl
theorem RT_word (w : World) (S : Nat → Prop) (wd : ByteArray) (h : wd.size ≤ 9223372036854775807) : RT w S (wordSx wd) [.string wd, .bool false, .slice none 0 0] :=
  RT_mk (wordSx wd) (A := none) (c := 0) (Nat.le_refl _) (by omega) h (RL_nil _ _ _ _)
theorem news_one {w : World} {g t : Nat} {u : Value} (h : Cells w g t [u]) : ∀ (j : Nat) (x : Value), [u][j]? = some x → w.cell? ((⟨g, 0, none⟩ : Addr).add j) = some x := by
  intro j x hx
  rw [add_plain]
  exact h.cell j x hx
theorem ne_int {b : UInt8} (k : UInt8) (h : b ≠ k) : ((b.toNat : Int) == (k.toNat : Int)) = false := by
  rw [beq_eq_false_iff_ne]; intro e; exact h (UInt8.toNat_inj.1 (by omega))
theorem prun_end {t : List UInt8} {p : PSt} (h : t.length ≤ p.i) : ∀ n, prun t n p = .ok p
  | 0 => rfl
  | n + 1 => by unfold prun; rw [List.getElem?_eq_none h]
theorem prun_err {t : List UInt8} {p : PSt} {b : UInt8} {e : Nat × Nat} {n : Nat} (hb : t[p.i]? = some b) (hs : pstep t p b = .error e) : prun t (n + 1) p = .error e := by
  unfold prun; rw [hb]; simp only; rw [hs]
theorem prun_ok {t : List UInt8} {p q : PSt} {b : UInt8} {n : Nat} (hb : t[p.i]? = some b) (hs : pstep t p b = .ok q) : prun t (n + 1) p = prun t n q := by
  rw [prun]; rw [hb]; simp only; rw [hs]

end Go.Proofs.YthhnhbpmpdminaaGreatDoor
