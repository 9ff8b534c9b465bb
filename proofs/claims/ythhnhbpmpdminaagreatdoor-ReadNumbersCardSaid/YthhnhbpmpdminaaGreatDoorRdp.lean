/-
read.Scope: Define's parts: a list of parameters copied, a definition counted, what is new. Conditions: none.
-/
import Derived.Test.YthhnhbpmpdminaaGreatDoorXX
namespace Go.Proofs.YthhnhbpmpdminaaGreatDoor
set_option maxRecDepth 4096
set_option maxHeartbeats 8000000
set_option linter.unusedSimpArgs false
set_option linter.unusedVariables false
set_option linter.unnecessarySimpa false
open Go.RowKit Go.Proofs.YthhnhbpmpdminaaGreatDoorW.PrintWords Go.Maps PReadTwice
theorem infoParam : (Tryz.prog.info? 77).map (fun i => (i.zero, i.size, i.bytes)) = some (some (.agg #[.string ⟨#[]⟩, .int .i64 0]), 2, 24) := by kernel_rfl
def parC (ps : List (ByteArray × Int)) : List Value := ps.flatMap fun p => [.string p.1, .int .i64 p.2]
theorem parC_len (ps : List (ByteArray × Int)) : (parC ps).length = ps.length * 2 := by
  induction ps with
  | nil => rfl
  | cons x r ih => unfold parC at ih ⊢; rw [List.flatMap_cons, List.length_append, ih]; simp; omega
theorem parC_get {ps : List (ByteArray × Int)} {i : Nat} {p : ByteArray × Int} (h : ps[i]? = some p) (q : Nat) (hq : q < 2) : (parC ps)[i * 2 + q]? = [Value.string p.1, .int .i64 p.2][q]? := by
  induction ps generalizing i with
  | nil => simp at h
  | cons y r ih =>
    unfold parC at ih ⊢
    rw [List.flatMap_cons]
    cases i with
    | zero =>
      simp at h; subst h
      rw [Nat.zero_mul, Nat.zero_add, List.getElem?_append_left (by simp; omega)]
    | succ i =>
      rw [List.getElem?_append_right (by simp; omega)]
      rw [show (i + 1) * 2 + q - [Value.string y.1, .int .i64 y.2].length = i * 2 + q by simp; omega]
      exact ih (by simpa using h)
theorem parC_one (ps : List (ByteArray × Int)) : ∀ u ∈ parC ps, u.oneCell' = true := by
  intro u hu
  unfold parC at hu
  obtain ⟨p, _, hp⟩ := List.mem_flatMap.1 hu
  simp at hp
  rcases hp with rfl | rfl <;> rfl
theorem par_news {S : Nat → Prop} {W : World} {ps : List (ByteArray × Int)} {ad : Addr} (h : ParS S W ps (some ad)) : ∀ j u, (parC ps)[j]? = some u → W.cell? (ad.add j) = some u := by
  intro j u hu
  have hj : j < ps.length * 2 := by rw [← parC_len]; exact (List.getElem?_eq_some_iff.1 hu).1
  obtain ⟨i, q, hq, rfl⟩ : ∃ i q, q < 2 ∧ j = i * 2 + q := ⟨j / 2, j % 2, Nat.mod_lt _ (by decide), by omega⟩
  obtain ⟨p, hp⟩ : ∃ p, ps[i]? = some p := ⟨_, List.getElem?_eq_getElem (by omega)⟩
  rw [parC_get hp q hq] at hu
  obtain ⟨_, _, ad', he, _, h1, h2⟩ := h i p hp
  cases he
  match q, hq with
  | 0, _ =>
    have : u = .string p.1 := by simpa using hu.symm
    rw [this]; simpa using h1
  | 1, _ =>
    have : u = .int .i64 p.2 := by simpa using hu.symm
    rw [this]
    have e : ad.add (i * 2 + 1) = ⟨(ad.add (i * 2)).block, (ad.add (i * 2)).off + 1, none⟩ := by
      unfold Addr.add
      rw [if_neg (by omega)]
      split <;> simp <;> omega
    rw [e]; exact h2
/-- append(nil, ps...). -/
theorem copy_params {S : Nat → Prop} (W : World) (ps : List (ByteArray × Int)) (pa : Option Addr) (pc : Nat) (ty : TypeId) (h : ParS S W ps pa) (hl : ps.length ≤ 1000000) :
    ∃ v w', (Builtin.append_ #[62, 62] ty #[.slice none 0 0, .slice pa ps.length pc]).run Tryz.prog W = .ok v w' ∧ w'.ownsRow W.heap.size 77 2 v ps.length (parC ps) ∧ Below W.heap.size W w' := by
  obtain ⟨i0, hi, hzz⟩ := Option.map_eq_some_iff.1 infoParam
  simp only [Prod.mk.injEq] at hzz
  obtain ⟨hz0, hz1, hz2⟩ := hzz
  cases pa with
  | none =>
    have hps : ps = [] := by
      cases ps with
      | nil => rfl
      | cons p r => obtain ⟨_, _, ad, he, _⟩ := h 0 p rfl; cases he
    subst hps
    exact ⟨.slice none 0 0, W, by kernel_rfl, ⟨rfl, .inl ⟨rfl, rfl⟩⟩, Below.refl _ _⟩
  | some ad =>
    obtain ⟨v, w', h1, h2, h3, _, h5⟩ := run_append_own_at (P := Tryz.prog) (w := W) W.heap.size 62 ty 77 i0 (.agg #[.string ⟨#[]⟩, .int .i64 0]) 2 24 Tryz.underlying62 hi hz0 hz1 hz2 rfl (by decide) (.slice none 0 0) 0 [] (World.ownsRow_nil _ _ _ _) ad ps.length pc (parC ps) (parC_len ps) (par_news h) (parC_one ps) (by unfold maxLen; omega) (by omega) (Nat.le_refl _)
    exact ⟨v, w', h1, by simpa using h2, Below.grown (Below.refl _ W) h3 (Nat.le_refl _) (fun k hk => by cases hk)⟩
theorem ap_run {P : Program} {ops : Array Oper} {Q : Exit → Act → World → Prop} {K : Act → World → Prop} {a : Act} {o : Oper} (W : World) (t : TypeId) (s x : Operand) (vs vx v1 : Value) (w1 : World) (hw : Region.wanted o (yielded ops a.tmps) = true)
    (ho : o.op = .call { callee := .builtin .append, args := #[s, x], argTypes := #[t, t] }) (hs : a.eval s = vs) (hx : a.eval x = vx) (hr : (Builtin.append_ #[t, t] o.type #[vs, vx]).run P W = .ok v1 w1) (h : K (a.put o.dst v1) w1) :
    if Region.wanted o (yielded ops a.tmps) = true then Oper.wp P o a W K Q else K (a.put o.dst undef) W := by
  rw [if_pos hw]
  unfold Oper.wp execOp
  simp only [ho, resolve, invoke, builtin, Sem.run_bind, Sem.run_pure, Result.andThen_ok, List.map_toArray, List.map_cons, List.map_nil, hs, hx, hr]
  exact h
section
variable {z : Zr} {w w' w1 : World}
theorem SS.glt {s : Sc} (h : SS z w s) : z.g < w.heap.size ∧ z.bi < w.heap.size ∧ z.bn < w.heap.size ∧ z.sb < w.heap.size ∧ z.ab < w.heap.size := by
  obtain ⟨vn, hg⟩ := h.gi
  obtain ⟨vl, cs, hI, _⟩ := h.sc
  exact ⟨hg.g_lt.1, hg.g_lt.2.1, hg.g_lt.2.2, hI.sb.1, hI.ab.1⟩
/-- What is new is none of the reader's. -/
theorem FX.fresh {s : Sc} (h : SS z w s) {k t : Nat} {l : List Value} (hk : w.heap.size ≤ k) (hc : Cells w' k t l) (h1 : t ≠ 112) (h2 : t ≠ 129) (h3 : t ≠ 3) : FX z w' k := by
  have hg := h.glt
  refine ⟨⟨hc.lt, fun q => ?_⟩, by omega, by omega, fun ⟨l', hl'⟩ => h2 (hc.ty hl').1, fun ⟨l', hl'⟩ => h3 (hc.ty hl').1⟩
  rcases q with (q | q | q | ⟨_, l', hl'⟩) | q
  · omega
  · omega
  · omega
  · exact h1 (hc.ty hl').1
  · have := h.nowk; omega
theorem par_own {S : Nat → Prop} {W : World} {ps : List (ByteArray × Int)} {pa : Option Addr} {B : Nat} {v : Value} (hp : ParS S W ps pa) (h : w'.ownsRow B 77 2 v ps.length (parC ps)) {T : Nat → Prop} (hT : ∀ k, v.ownBlock = some k → T k) : ∃ A c, v = .slice A ps.length c ∧ ps.length ≤ c ∧ c ≤ 9223372036854775807 ∧ ParS T w' ps A := by
  rcases h.2 with ⟨e, h0⟩ | ⟨g, cap, cur, e, hg, hh, h1, h2, _⟩
  · exact ⟨none, 0, by rw [e, h0], by omega, by omega, fun j p hj => by have := (List.getElem?_eq_some_iff.1 hj).1; omega⟩
  · refine ⟨_, _, e, h1, by unfold maxLen at h2; omega, fun j p hj => ?_⟩
    obtain ⟨k1, k2, _⟩ := hp j p hj
    have hc := h.cells (g := g) (by rw [e]; rfl)
    refine ⟨k1, k2, ⟨g, 0, none⟩, rfl, hT g (by rw [e]; rfl), ?_, ?_⟩
    · exact hc (j * 2) (.string p.1) (by have := parC_get hj 0 (by omega); simpa using this)
    · have := hc (j * 2 + 1) (.int .i64 p.2) (by have := parC_get hj 1 (by omega); simpa using this)
      rw [add0] at this ⊢
      exact this
/-- A block of ints is written. -/
theorem SS.other {s : Sc} (h : SS z w s) {b : Nat} {l : List Value} (hc : Cells w b 3 l) (hm : Mod (fun k => k = b) w w') (hb : z.B ≤ b) : SS z w' s := by
  obtain ⟨vn, hg⟩ := h.gi
  obtain ⟨vl, cs, hI, hE⟩ := h.sc
  have hh : ∀ k, k < w.heap.size → k ≠ b → w'.heap[k]? = w.heap[k]? := fun k hk q => hm.keep k hk q
  have hnr : ∀ k, NR z w k → k ≠ b → NR z w' k := fun k hk q => ⟨Nat.lt_of_lt_of_le hk.1 hm.size, fun q2 => hk.2 (by
    rcases q2 with (q2 | q2 | q2 | ⟨q2, l, hl⟩) | q2
    · exact .inl (.inl q2)
    · exact .inl (.inr (.inl q2))
    · exact .inl (.inr (.inr (.inl q2)))
    · exact .inl (.inr (.inr (.inr ⟨q2, l, by unfold Cells at hl ⊢; rw [← hh k hk.1 q]; exact hl⟩)))
    · exact .inr q2)⟩
  have hfb : ∀ k, FX z w k → k ≠ b := fun k hk q => hk.2.2.2.2 ⟨l, by rw [q]; exact hc⟩
  have hfx : ∀ k, FX z w k → w'.heap[k]? = w.heap[k]? := fun k hk => hh k hk.1.1 (hfb k hk)
  have hfx2 : ∀ k, FX z w k → FX z w' k := fun k hk => ⟨hnr k hk.1 (hfb k hk), hk.2.1, hk.2.2.1, fun ⟨l, hl⟩ => hk.2.2.2.1 ⟨l, by unfold Cells at hl ⊢; rw [← hfx k hk]; exact hl⟩, fun ⟨l, hl⟩ => hk.2.2.2.2 ⟨l, by unfold Cells at hl ⊢; rw [← hfx k hk]; exact hl⟩⟩
  have hsb : z.sb ≠ b := fun q => by have := hI.scope; rw [q] at this; exact absurd (this.ty hc).1 (by decide)
  have hab : z.ab ≠ b := by obtain ⟨D, hD, _⟩ := hI.at_; exact gmap_ne hD hc
  have hro : ∀ k, vl.ownBlock = some k → k ≠ b := fun k hk q => own_ne_cells hI.row hc (by decide) (q ▸ hk)
  have herr : 3 < w.heap.size := hI.errN.1
  have hgz : ¬ GZ z.B z.g z.bi z.bn w b := by
    rintro (q | q | q | ⟨_, l', hl'⟩)
    · subst q; exact absurd (hc.ty hg.cells).1 (by decide)
    · obtain ⟨D, hD, _⟩ := hg.ids
      exact gmap_ne hD hc q.symm
    · obtain ⟨D, hD, _⟩ := hg.names
      exact gmap_ne hD hc q.symm
    · exact absurd (hc.ty hl').1 (by decide)
  have heb : 3 ≠ b := by have := h.eb; omega
  · refine ⟨h.nowk, ⟨vn, hg.keep hm (fun k hk q hq => hgz (q ▸ hq))⟩, ⟨vl, cs, ⟨hI.scope.keep hm hsb, hnr _ hI.sb hsb, own_keep hI.row hm (fun k hk q => hro k hk q), fun k hk => hnr k (hI.rowN k hk) (hro k hk), fun i e he => EntS.ok ((hE i e he).move hfx (fun k hk => (hfx2 k hk).1)), ?_, hnr _ hI.ab hab, hI.len, ?_, hnr _ hI.errN heb⟩, fun i e he => (hE i e he).move hfx hfx2⟩, h.dec, h.sb, h.ab, h.eb⟩
    · obtain ⟨D, hD, hA⟩ := hI.at_
      exact ⟨D, gmap_heap hD (hh _ hD.lt hab), hA⟩
    · obtain ⟨ev, h1, h2⟩ := hI.err
      exact ⟨ev, (World.cell?_of_block (w := w) (a := ⟨3, 0, none⟩) (hh _ herr heb)).trans h1, h2⟩
/-- One definition more is counted. -/
theorem SS.count {s : Sc} (h : SS z w s) : SS z (w.setCell ⟨z.sb, 3, none⟩ (.int .i64 ((s.defs + 1 : Nat) : Int))) { s with defs := s.defs + 1 } ∧ Mod (fun k => k = z.sb) w (w.setCell ⟨z.sb, 3, none⟩ (.int .i64 ((s.defs + 1 : Nat) : Int))) := by
  obtain ⟨vn, hg⟩ := h.gi
  obtain ⟨vl, cs, hI, hE⟩ := h.sc
  have hm : Mod (fun k => k = z.sb) w (w.setCell ⟨z.sb, 3, none⟩ (.int .i64 ((s.defs + 1 : Nat) : Int))) := (Mod.refl (fun k => k = z.sb) w).setCell (p := ⟨z.sb, 3, none⟩) (.inl rfl) _
  have hsc := hI.scope.set 3 (.int .i64 ((s.defs + 1 : Nat) : Int))
  obtain ⟨wn, hwn⟩ : ∃ wn, w.setCell ⟨z.sb, 3, none⟩ (.int .i64 ((s.defs + 1 : Nat) : Int)) = wn := ⟨_, rfl⟩
  rw [hwn] at hm hsc ⊢
  refine ⟨?_, hm⟩
  have hh : ∀ k, k < w.heap.size → k ≠ z.sb → wn.heap[k]? = w.heap[k]? := fun k hk q => hm.keep k hk q
  have hnr : ∀ k, NR z w k → k ≠ z.sb → NR z wn k := fun k hk q => ⟨Nat.lt_of_lt_of_le hk.1 hm.size, fun q2 => hk.2 (by
    rcases q2 with (q2 | q2 | q2 | ⟨q2, l, hl⟩) | q2
    · exact .inl (.inl q2)
    · exact .inl (.inr (.inl q2))
    · exact .inl (.inr (.inr (.inl q2)))
    · exact .inl (.inr (.inr (.inr ⟨q2, l, by unfold Cells at hl ⊢; rw [← hh k hk.1 q]; exact hl⟩)))
    · exact .inr q2)⟩
  have hnsb : NR z wn z.sb := ⟨hsc.lt, fun q => by
    rcases q with (q | q | q | ⟨_, l', hl'⟩) | q
    · exact hI.sb.2 (.inl (.inl q))
    · exact hI.sb.2 (.inl (.inr (.inl q)))
    · exact hI.sb.2 (.inl (.inr (.inr (.inl q))))
    · exact absurd (hsc.ty hl').1 (by decide)
    · exact hI.sb.2 (.inr q)⟩
  have hfx : ∀ k, FX z w k → wn.heap[k]? = w.heap[k]? := fun k hk => hh k hk.1.1 hk.2.1
  have hfx2 : ∀ k, FX z w k → FX z wn k := fun k hk => ⟨hnr k hk.1 hk.2.1, hk.2.1, hk.2.2.1, fun ⟨l, hl⟩ => hk.2.2.2.1 ⟨l, by unfold Cells at hl ⊢; rw [← hfx k hk]; exact hl⟩, fun ⟨l, hl⟩ => hk.2.2.2.2 ⟨l, by unfold Cells at hl ⊢; rw [← hfx k hk]; exact hl⟩⟩
  have hro : ∀ k, vl.ownBlock = some k → k ≠ z.sb := fun k hk q => own_ne_cells hI.row hI.scope (by decide) (q ▸ hk)
  have hab : z.ab ≠ z.sb := by obtain ⟨D, hD, _⟩ := hI.at_; exact gmap_ne hD hI.scope
  have herr : 3 ≠ z.sb := by have := h.eb; have := h.sb; omega
  refine ⟨h.nowk, ⟨vn, hg.keep hm (fun k hk q hq => hI.sb.2 (.inl (q ▸ hq)))⟩, ⟨vl, cs, ⟨hsc, hnsb, own_keep hI.row hm (fun k hk q => hro k hk q), fun k hk => hnr k (hI.rowN k hk) (hro k hk), fun i e he => EntS.ok ((hE i e he).move hfx (fun k hk => (hfx2 k hk).1)), ?_, hnr _ hI.ab hab, hI.len, ?_, hnr _ hI.errN herr⟩, fun i e he => (hE i e he).move hfx hfx2⟩, h.dec, h.sb, h.ab, h.eb⟩
  · obtain ⟨D, hD, hA⟩ := hI.at_
    exact ⟨D, gmap_heap hD (hh _ hD.lt hab), hA⟩
  · obtain ⟨ev, h1, h2⟩ := hI.err
    exact ⟨ev, (World.cell?_of_block (w := w) (a := ⟨3, 0, none⟩) (hh _ hI.errN.1 herr)).trans h1, h2⟩
end
end Go.Proofs.YthhnhbpmpdminaaGreatDoor
