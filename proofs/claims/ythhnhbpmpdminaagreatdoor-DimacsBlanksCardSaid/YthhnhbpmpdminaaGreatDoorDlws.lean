/-
What a law sees of a list of lists. Conditions: none.
-/
import Derived.Test.YthhnhbpmpdminaaGreatDoorDkd
import Derived.Test.YthhnhbpmpdminaaGreatDoorAkd
namespace Go.Proofs.YthhnhbpmpdminaaGreatDoor
open Go.RowKit Go.Proofs.YthhnhbpmpdminaaGreatDoorW.PrintWords PDimacsParse
set_option maxRecDepth 4096

theorem ML.up {w w' : World} (h : ML w) (hb : Below w.heap.size w w') : ML w' := by
  obtain ⟨m, hm⟩ := h
  exact ⟨m, Go.cell_later hb hm⟩
theorem EV.up {w w' : World} (h : EV w) (hb : Below w.heap.size w w') : EV w' := Go.cell_later hb h
/-- What the law sees of what was read. -/
structure Seen (w : World) (l : List (List Int)) (v : Value) : Prop where
  out : ∃ A c, v = .slice A l.length c ∧ l.length ≤ c ∧ Kd.C (Kd.slice 3 (Kd.int .i64)) w A l.length l
theorem Seen.up {w w' : World} {l : List (List Int)} {v : Value} (h : Seen w l v) (hb : Below w.heap.size w w') : Seen w' l v := by
  obtain ⟨A, c, e, hl, hC⟩ := h.out
  exact ⟨A, c, e, hl, Kd.C_below hC hb⟩
theorem lists_any (l : List (List Int)) (u v : Value) (w : World) (h : Seen w l u) (g : Seen w l v) : Calls Tryz.prog 16 #[u, v] w fun e w' => e = .returned (.bool true) ∧ Below w.heap.size w w' := by
  obtain ⟨A, c, rfl, hl, hC⟩ := h.out
  obtain ⟨A', c', rfl, hl', hC'⟩ := g.out
  obtain ⟨h1, h2⟩ := C_lens hC
  obtain ⟨k, hk⟩ := lists_f l h1 h2
  exact (plaithelp_Lists.calls k A c l A' c' l true w hC hl hC' hl' hk).mono fun e w' ⟨he, hd⟩ => ⟨he, hd.below⟩
end Go.Proofs.YthhnhbpmpdminaaGreatDoor
