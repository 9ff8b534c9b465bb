/-
Several texts as one: Rss Rta Rde.
-/
import Derived.Test.YthhnhbpmpdminaaGreatDoorXT
import Derived.Test.YthhnhbpmpdminaaGreatDoorRbn
import Derived.Test.YthhnhbpmpdminaaGreatDoorXV
import Derived.Test.YthhnhbpmpdminaaGreatDoorXW
/-
The reader between two calls: its scope and graph; an entry more. Conditions: none.
-/
namespace Go.Proofs.YthhnhbpmpdminaaGreatDoor
set_option maxRecDepth 4096
set_option maxHeartbeats 8000000
set_option linter.unusedSimpArgs false
set_option linter.unusedVariables false
set_option linter.unnecessarySimpa false
open Go.RowKit Go.Proofs.YthhnhbpmpdminaaGreatDoorW.PrintWords Go.Maps PReadTwice
def ParS (S : Nat → Prop) (w : World) (ps : List (ByteArray × Int)) (A : Option Addr) : Prop := ∀ (j : Nat) (p : ByteArray × Int), ps[j]? = some p → p.1.size ≤ maxLen ∧ i64ok p.2 ∧
  ∃ ad, A = some ad ∧ S ad.block ∧ w.cell? (ad.add (j * 2)) = some (.string p.1) ∧ w.cell? ⟨(ad.add (j * 2)).block, (ad.add (j * 2)).off + 1, none⟩ = some (.int .i64 p.2)
def EntS (S : Nat → Prop) (w : World) (e : Ent) (cs : List Value) : Prop := ∃ pa pc ba bc, cs = [.string e.name, .bool e.defined, .slice pa e.params.length pc, .int .i64 e.sort, .string e.body.word, .bool e.body.list, .slice ba e.body.kids.length bc] ∧
  e.params.length ≤ pc ∧ pc ≤ 9223372036854775807 ∧ ParS S w e.params pa ∧ RT w S e.body [.string e.body.word, .bool e.body.list, .slice ba e.body.kids.length bc] ∧ e.name.size ≤ maxLen ∧ i64ok e.sort
theorem ParS.move {S S' : Nat → Prop} {w w' : World} {ps : List (ByteArray × Int)} {A : Option Addr} (h : ParS S w ps A) (hm : ∀ k, S k → w'.heap[k]? = w.heap[k]?) (hs : ∀ k, S k → S' k) : ParS S' w' ps A := fun j p hp => by
  obtain ⟨h1, h2, ad, h3, h4, h5, h6⟩ := h j p hp
  have hb : w'.heap[(ad.add (j * 2)).block]? = w.heap[(ad.add (j * 2)).block]? := by rw [add_block]; exact hm _ h4
  exact ⟨h1, h2, ad, h3, hs _ h4, (World.cell?_of_block (w := w) hb).trans h5, (World.cell?_of_block (w := w) (a := ⟨(ad.add (j * 2)).block, (ad.add (j * 2)).off + 1, none⟩) hb).trans h6⟩
theorem EntS.move {S S' : Nat → Prop} {w w' : World} {e : Ent} {cs : List Value} (h : EntS S w e cs) (hm : ∀ k, S k → w'.heap[k]? = w.heap[k]?) (hs : ∀ k, S k → S' k) : EntS S' w' e cs := by
  obtain ⟨pa, pc, ba, bc, h1, h2, h3, h4, h5, h6⟩ := h
  exact ⟨pa, pc, ba, bc, h1, h2, h3, h4.move hm hs, RT_move hm hs _ _ h5, h6⟩
section
variable {z : Zr} {w w' w1 w2 : World} {E : List Ent} {vl : Value} {cs : List Value} {defs : Int}
theorem EntS.ok {e : Ent} {ec : List Value} (h : EntS (NR z w) w e ec) : EntOk z w e ec := h
/-- Blocks that neither the reader nor lay writes. -/
def FX (z : Zr) (w : World) (k : Nat) : Prop := NR z w k ∧ k ≠ z.sb ∧ k ≠ z.ab ∧ (¬ ∃ l, Cells w k 129 l) ∧ ¬ ∃ l, Cells w k 3 l
theorem FX.next {k : Nat} (h : FX z w k) (m : KR z w w') : FX z w' k := ⟨h.1.next m, h.2.1, h.2.2.1, fun ⟨l, hl⟩ => h.2.2.2.1 ⟨l, by unfold Cells at hl ⊢; rw [← h.1.heap m]; exact hl⟩, fun ⟨l, hl⟩ => h.2.2.2.2 ⟨l, by unfold Cells at hl ⊢; rw [← h.1.heap m]; exact hl⟩⟩
structure SS (z : Zr) (w : World) (s : Sc) : Prop where
  nowk : z.wb = z.g
  gi : ∃ vn, GI w z.B z.g s.G vn z.bi z.bn
  sc : ∃ vl cs, SI z w s.E vl cs s.defs ∧ ∀ (i : Nat) (e : Ent), s.E[i]? = some e → EntS (FX z w) w e ((cs.drop (i * 7)).take 7)
  dec : Dec s.E s.G
  sb : z.B ≤ z.sb
  ab : z.B ≤ z.ab
  eb : 3 < z.B
/-- What a call may write. -/
def SZ (z : Zr) (w : World) (k : Nat) : Prop := GZ z.B z.g z.bi z.bn w k ∨ k = z.sb ∨ k = z.ab ∨ ∃ l, Cells w k 129 l
theorem RZ.gz {k : Nat} (hz : z.wb = z.g) (h : RZ z w k) : GZ z.B z.g z.bi z.bn w k := by
  rcases h with h | h
  · exact h
  · exact .inl (h.trans hz)
theorem KR.sz (hz : z.wb = z.g) (h : KR z w w') : Mod (SZ z w) w w' := Mod.mono h.mod fun k _ q => .inl (q.gz hz)
/-- Another worker, of new memory. -/
theorem KR.wb {b : Nat} (h : KR { z with wb := b } w w') (hb : w.heap.size ≤ b) : KR z w w' :=
  ⟨Mod.mono h.mod fun k hk q => by
    rcases q with q | q
    · exact .inl q
    · have : k = b := q
      omega,
   fun hg => ⟨fun k hk hn => (h.ny hg).keep k hk (fun q => by
      rcases q with q | q
      · exact hn (.inl q)
      · have : k = b := q
        omega), (h.ny hg).own⟩⟩
theorem NR.wb {b k : Nat} (h : NR z w k) (hb : w.heap.size ≤ b) : NR { z with wb := b } w k := ⟨h.1, fun q => by
  rcases q with q | q
  · exact h.2 (.inl q)
  · have : k = b := q
    have := h.1
    omega⟩
theorem SI.wb {b : Nat} (h : SI z w E vl cs defs) (hb : w.heap.size ≤ b) : SI { z with wb := b } w E vl cs defs :=
  ⟨h.scope, h.sb.wb hb, h.row, fun k hk => (h.rowN k hk).wb hb, fun i e he => EntS.ok (EntS.move (S := NR z w) (h.each i e he) (fun _ _ => rfl) fun k hk => hk.wb hb), h.at_, h.ab.wb hb, h.len, h.err, h.errN.wb hb⟩
/-- A step of the worker, or of Make. -/
theorem SS.step {s : Sc} (h : SS z w s) (m : KR z w w') {G : Gr} (hg : ∃ vn, GI w' z.B z.g G vn z.bi z.bn) (he : Ext s.G G) : SS z w' { s with G := G } := by
  obtain ⟨vl, cs, hI, hE⟩ := h.sc
  exact ⟨h.nowk, hg, ⟨vl, cs, hI.next m, fun i e hi => (hE i e hi).move (fun k hk => hk.1.heap m) (fun k hk => hk.next m)⟩, h.dec.ext he, h.sb, h.ab, h.eb⟩
theorem SS.below {s : Sc} (h : SS z w s) (hb : Below w.heap.size w w') : SS z w' s := by
  obtain ⟨vn, hg⟩ := h.gi
  exact h.step (KR.of_below hb) ⟨vn, hg.below hb⟩ (.refl _)
/-- An entry more. -/
theorem SS.laid {s : Sc} {e : Ent} {ec : List Value} {vl' : Value} (hz : z.wb = z.g) (hg : ∃ vn, GI w z.B z.g s.G vn z.bi z.bn) (hI : SI z w s.E vl cs defs) (hE : ∀ (i : Nat) (e : Ent), s.E[i]? = some e → EntS (FX z w) w e ((cs.drop (i * 7)).take 7)) (hsb : z.B ≤ z.sb) (hab : z.B ≤ z.ab) (heb : 3 < z.B)
    (he : EntS (FX z w) w e ec) (hn : s.E.length < 999999) (P : LayPost z w s.E vl cs defs e ec w' vl') (hd : Dec (s.E ++ [e]) s.G) {n : Nat} (hdn : defs = (n : Int)) : SS z w' { E := s.E ++ [e], G := s.G, defs := n } := by
  subst hdn
  have hsz := P.mod.size
  have hown : ∀ k, vl.ownBlock = some k → z.B ≤ k ∧ (∃ l, Cells w k 129 l) := fun k hk => ⟨own_base_le hI.row k hk, own_cells hI.row k hk⟩
  have hh : ∀ k, k < w.heap.size → k ≠ z.sb → k ≠ z.ab → (¬ ∃ l, Cells w k 129 l) → w'.heap[k]? = w.heap[k]? := fun k hk h1 h2 h3 => P.mod.keep k hk (fun q => by
    rcases q with q | q | q
    · exact h1 q
    · exact h2 q
    · exact h3 (hown k q).2)
  have hback : ∀ k, RZ z w' k → (w'.heap[k]? = w.heap[k]?) → RZ z w k := fun k q heq => by
    rcases q with (q | q | q | ⟨q, l, hl⟩) | q
    · exact .inl (.inl q)
    · exact .inl (.inr (.inl q))
    · exact .inl (.inr (.inr (.inl q)))
    · exact .inl (.inr (.inr (.inr ⟨q, l, by unfold Cells at hl ⊢; rw [← heq]; exact hl⟩)))
    · exact .inr q
  have hfx : ∀ k, FX z w k → w'.heap[k]? = w.heap[k]? := fun k hk => hh k hk.1.1 hk.2.1 hk.2.2.1 hk.2.2.2.1
  have hnr : ∀ k, FX z w k → NR z w' k := fun k hk => ⟨Nat.lt_of_lt_of_le hk.1.1 hsz, fun q => hk.1.2 (hback k q (hfx k hk))⟩
  have hfx2 : ∀ k, FX z w k → FX z w' k := fun k hk => ⟨hnr k hk, hk.2.1, hk.2.2.1, fun ⟨l, hl⟩ => hk.2.2.2.1 ⟨l, by unfold Cells at hl ⊢; rw [← hfx k hk]; exact hl⟩, fun ⟨l, hl⟩ => hk.2.2.2.2 ⟨l, by unfold Cells at hl ⊢; rw [← hfx k hk]; exact hl⟩⟩
  have hne : ∀ k t l, Cells w' k t l → t ≠ 112 → (∀ q, RZ z w' k → (k = z.g ∨ k = z.bi ∨ k = z.bn) → q) → NR z w' k := fun k t l hc ht hq => ⟨hc.lt, fun q => by
    have q2 := q
    rcases q with (q | q | q | ⟨_, l', hl'⟩) | q
    · exact hq _ q2 (.inl q)
    · exact hq _ q2 (.inr (.inl q))
    · exact hq _ q2 (.inr (.inr q))
    · exact ht (hc.ty hl').1
    · exact hq _ q2 (.inl (q.trans hz))⟩
  have hnsb : NR z w' z.sb := hne _ _ _ P.scope (by decide) (fun q _ h => False.elim (hI.sb.2 (.inl (by
    rcases h with h | h | h
    · exact .inl h
    · exact .inr (.inl h)
    · exact .inr (.inr (.inl h))))))
  have hnab : NR z w' z.ab := ⟨Nat.lt_of_lt_of_le hI.ab.1 hsz, fun q => by
    rcases q with (q | q | q | ⟨_, l', hl'⟩) | q
    · exact hI.ab.2 (.inl (.inl q))
    · exact hI.ab.2 (.inl (.inr (.inl q)))
    · exact hI.ab.2 (.inl (.inr (.inr (.inl q))))
    · obtain ⟨D, hD, _⟩ := P.at_
      exact gmap_ne hD hl' rfl
    · exact hI.ab.2 (.inr q)⟩
  obtain ⟨vn, hgi⟩ := hg
  have hglt := hgi.g_lt
  have hrown : ∀ k, vl'.ownBlock = some k → NR z w' k := fun k hk => by
    obtain ⟨l, hl⟩ := own_cells P.row k hk
    refine hne k _ l hl (by decide) (fun q _ h => False.elim ?_)
    rcases P.own k hk with h1 | h1
    · refine (hI.rowN k h1).2 (.inl ?_)
      rcases h with h | h | h
      · exact .inl h
      · exact .inr (.inl h)
      · exact .inr (.inr (.inl h))
    · omega
  have hlen : cs.length = s.E.length * 7 := hI.row.1
  have hel : ec.length = 7 := by obtain ⟨_, _, _, _, rfl, _⟩ := he; rfl
  have hEach : ∀ (i : Nat) (e' : Ent), (s.E ++ [e])[i]? = some e' → EntS (FX z w) w e' (((cs ++ ec).drop (i * 7)).take 7) := fun i e' hi => by
    by_cases hlt : i < s.E.length
    · rw [List.getElem?_append_left hlt] at hi
      rw [List.drop_append_of_le_length (by omega), List.take_append_of_le_length (by rw [List.length_drop]; omega)]
      exact hE i e' hi
    · have hi' : i = s.E.length := by
        have := (List.getElem?_eq_some_iff.1 hi).1
        simp at this; omega
      subst hi'
      have : e = e' := by simpa using hi
      subst this
      rw [← hlen, List.drop_left, List.take_of_length_le (by omega)]
      exact he
  have hgi' : GI w' z.B z.g s.G vn z.bi z.bn := hgi.keep P.mod (fun k hk q hq => by
    rcases q with q | q | q
    · exact hI.sb.2 (.inl (q ▸ hq))
    · exact hI.ab.2 (.inl (q ▸ hq))
    · exact (hI.rowN k q).2 (.inl hq))
  have herr : w'.heap[3]? = w.heap[3]? := P.below.block _ heb
  refine ⟨hz, ⟨vn, hgi'⟩, ⟨vl', cs ++ ec, ⟨P.scope, hnsb, by simpa using P.row, hrown, fun i e' hi => EntS.ok ((hEach i e' hi).move hfx hnr), by simpa using P.at_, hnab, by simp; omega, ?_, ?_⟩, fun i e' hi => (hEach i e' hi).move hfx hfx2⟩, hd, hsb, hab, heb⟩
  · obtain ⟨ev, h1, h2⟩ := hI.err
    exact ⟨ev, (World.cell?_of_block (w := w) (a := ⟨3, 0, none⟩) herr).trans h1, h2⟩
  · exact ⟨Nat.lt_of_lt_of_le hI.errN.1 hsz, fun q => hI.errN.2 (hback _ q herr)⟩
theorem LayPost.sz {e : Ent} {ec : List Value} {vl' : Value} (hI : SI z w E vl cs defs) (P : LayPost z w E vl cs defs e ec w' vl') : Mod (SZ z w) w w' := Mod.mono P.mod fun k _ q => by
  rcases q with q | q | q
  · exact .inr (.inl q)
  · exact .inr (.inr (.inl q))
  · exact .inr (.inr (.inr (own_cells hI.row k q)))
/-- Cells that are none of the reader's. -/
theorem SS.cells {s : Sc} (h : SS z w s) (hm : Mod (SZ z w) w w') {k t : Nat} {l : List Value} (hc : Cells w k t l) (h1 : t ≠ 112) (h2 : t ≠ 129) (h3 : t ≠ 124) (h4 : t ≠ 127) : Cells w' k t l := by
  refine hc.keep hm ?_
  obtain ⟨vn, hg⟩ := h.gi
  obtain ⟨vl, cs, hI, _⟩ := h.sc
  rintro ((q | q | q | ⟨_, l', hl'⟩) | q | q | ⟨l', hl'⟩)
  · subst q; exact h3 (hc.ty hg.cells).1
  · obtain ⟨D, hD, _⟩ := hg.ids
    exact gmap_ne hD hc q.symm
  · obtain ⟨D, hD, _⟩ := hg.names
    exact gmap_ne hD hc q.symm
  · exact h1 (hc.ty hl').1
  · subst q; exact h4 (hc.ty hI.scope).1
  · obtain ⟨D, hD, _⟩ := hI.at_
    exact gmap_ne hD hc q.symm
  · exact h2 (hc.ty hl').1
end
end Go.Proofs.YthhnhbpmpdminaaGreatDoor
/-
read.Scope: Term. Conditions: the reader in memory.
-/
namespace Go.Proofs.YthhnhbpmpdminaaGreatDoor
set_option maxRecDepth 4096
set_option maxHeartbeats 8000000
set_option linter.unusedSimpArgs false
set_option linter.unusedVariables false
set_option linter.unnecessarySimpa false
open Go.RowKit Go.Proofs.YthhnhbpmpdminaaGreatDoorW.PrintWords Go.Maps PReadTwice
theorem term_every (z : Zr) (E : List Ent) (vl : Value) (cs : List Value) (defs : Int) : TermC z E vl cs defs (tmF E 200) 1 :=
  term_all z E vl cs defs (fun rec d hd ht hr hmo => let_any z E vl cs defs bind_any rec d hd ht hr hmo) (bits_any z E vl cs defs) 200 (Nat.le_refl _)
theorem Term_any (z : Zr) (w : World) (s : Sc) (x : Sx) (xc : List Value) (h : SS z w s) (hB : z.B ≤ w.heap.size) (hx : RT w (NR z w) x xc) :
    Calls Tryz.prog 37 #[.pointer (some ⟨z.sb, 0, none⟩), .agg xc.toArray] w fun e w' => e = .returned (.tuple #[.int .i64 ((termF s.E x s.G).1.1 : Int), .int .i64 (termF s.E x s.G).1.2]) ∧ SS z w' { s with G := (termF s.E x s.G).2.G } ∧ Mod (SZ z w) w w' ∧ Below z.B w w' := by
  obtain ⟨R, hR⟩ : ∃ R, termF s.E x s.G = R := ⟨_, rfl⟩
  have hext : Ext s.G R.2.G := by rw [← hR]; exact term_ext h.dec
  obtain ⟨A, c, rfl, hc1, hc2, hws, hRL⟩ := RT_cells hx
  obtain ⟨vl, cs, hI, hE⟩ := h.sc
  obtain ⟨vn, hg⟩ := h.gi
  obtain ⟨Al, cl, rfl⟩ : ∃ A c, vl = .slice A s.E.length c := by
    rcases hI.row.2 with ⟨q, q0⟩ | ⟨b, cap, cur, q, _⟩
    · exact ⟨none, 0, by rw [q0]; exact q⟩
    · exact ⟨_, _, q⟩
  obtain ⟨b, hb⟩ : ∃ b, w.heap.size + 1 = b := ⟨_, rfl⟩
  have hbw : w.heap.size ≤ b := by omega
  obtain ⟨w1, hw1⟩ : ∃ w1, ((w.alloc (.cells #[.string x.word, .bool x.list, .slice A x.kids.length c] 49)).alloc (.cells #[.pointer (some ⟨z.sb, 0, none⟩), .int .i64 0] 135)) = w1 := ⟨_, rfl⟩
  have hB1 : Below w.heap.size w w1 := by rw [← hw1]; exact ((Below.refl _ w).alloc (Nat.le_refl _) _).alloc (by simp) _
  have hcx : Cells w1 w.heap.size 49 [.string x.word, .bool x.list, .slice A x.kids.length c] := by rw [← hw1]; exact (Cells.new w _ _).alloc _
  have hcw : Cells w1 b 135 [.pointer (some ⟨z.sb, 0, none⟩), .int .i64 ((0 : Nat) : Int)] := by
    rw [← hw1, ← hb]
    have := Cells.new (w.alloc (.cells #[.string x.word, .bool x.list, .slice A x.kids.length c] 49)) 135 [.pointer (some ⟨z.sb, 0, none⟩), .int .i64 0]
    simpa using this
  have hm1 : KR { z with wb := b } w w1 := KR.of_below hB1
  have hI1 : SI { z with wb := b } w1 s.E (.slice Al s.E.length cl) cs s.defs := (hI.wb hbw).next hm1
  have hRI : RI { z with wb := b } w1 s.E (.slice Al s.E.length cl) cs s.defs ⟨0, s.G⟩ := ⟨⟨vn, hg.below hB1⟩, hI1, hcw, Nat.le_trans hB hbw, h.dec⟩
  have hRI2 : RI { z with wb := b } w1.drew s.E (.slice Al s.E.length cl) cs s.defs ⟨0, s.G⟩ := hRI.below ((Below.refl _ w1).drew)
  have hx1 : RT w1.drew (NR { z with wb := b } w1.drew) x [.string x.word, .bool x.list, .slice A x.kids.length c] := RT_move (w' := w1.drew) (fun k hk => (show w1.drew.heap[k]? = w.heap[k]? from hB1.block k hk.1)) (fun k hk => ((hk.wb hbw).next hm1).next (KR.of_below ((Below.refl _ w1).drew))) _ _ hx
  have HT := Aside0.mk (term_every { z with wb := b } s.E (.slice Al s.E.length cl) cs s.defs w1.drew ⟨0, s.G⟩ x _ [] none s.E.length hRI2 (Nat.le_trans hB hB1.size) hx1 rfl (fun p hp => by cases hp) (Nat.le_refl _) (by simp))
  unfold plV at HT
  have hR' : tmF s.E 200 x [] s.E.length ⟨0, s.G⟩ = R := hR
  rw [hR'] at HT
  have HH := Aside0.mk h
  have HX := Aside0.mk hext
  have HB1 := Aside0.mk hB1
  have HM1 := Aside0.mk hm1
  have HCX := Aside0.mk hcx
  have HSC := Aside0.mk (hI1.scope)
  have HBW := Aside0.mk hbw
  have HBE := Aside0.mk hb
  rw [hR]
  clear h hext hx hRL hI hE hg hB1 hcx hcw hm1 hI1 hRI hRI2 hx1 hR' hR hbw
  go_enter Tryz.func37, Tryz.ntmps37
  go_upto_region 2 with (fail)
  try rw [hw1]
  try rw [hb]
  clear hw1 hb
  refine wp_plan [(0, 0), (0, 2), (0, 3), (0, 4), (1, 1), (1, 5), (0, 6), (0, 7), (3, 8), (0, 9), (0, 10), (0, 11), (0, 12)] (fun w' => Cells w' w.heap.size 49 [.string x.word, .bool x.list, .slice A x.kids.length c] ∧ Cells w' z.sb 127 [.pointer (some ⟨z.g, 0, none⟩), .slice Al s.E.length cl, .map (some z.ab), .int .i64 (s.defs : Int)]) (by kernel_rfl) (by kernel_rfl) (fun _ _ d _ _ h => by cases d <;> exact h) ⟨HCX.out.drew, HSC.out.drew⟩ ?_
  simp only [planOps, List.filterMap_cons, List.filterMap_nil, List.getElem?_toArray, List.getElem?_cons_zero, List.getElem?_cons_succ, Option.map_some]
  repeat (first
    | (refine' plan_pu _ (by rfl) (fun w' => ?_) ?_; rotate_left 1; (focus (go_simp; try (with_reducible rfl))); (try simp only [wrapi_0, wrapi_1, wrapi_2, wrapi_3, wrapi_4]); simp only [Act.put, List.setIfInBounds_toArray, List.set_cons_zero, List.set_cons_succ])
    | (refine' plan_off (by rfl) ?_; (try simp only [wrapi_0, wrapi_1, wrapi_2, wrapi_3, wrapi_4]); simp only [Act.put, List.setIfInBounds_toArray, List.set_cons_zero, List.set_cons_succ])
    | (refine' plan_offL (by rfl) ?_; (try simp only [wrapi_0, wrapi_1, wrapi_2, wrapi_3, wrapi_4]); simp only [Act.put, List.setIfInBounds_toArray, List.set_cons_zero, List.set_cons_succ])
    | (refine' plan_offE (by rfl) (by first | assumption | exact (by assumption)) ?_; (try simp only [wrapi_0, wrapi_1, wrapi_2, wrapi_3, wrapi_4]); simp only [Act.put, List.setIfInBounds_toArray, List.set_cons_zero, List.set_cons_succ])
    | (refine' plan_ld _ (by rfl) (fun w' hSw => ?_) ?_; rotate_left 1; (focus ((try dsimp only at hSw); have x0 := hSw.1.cell 0 _ rfl; have x1 := hSw.1.cell 1 _ rfl; have x2 := hSw.1.cell 2 _ rfl; have c1 := hSw.2.cell 1 _ rfl; go_simp; try (with_reducible rfl))); (try simp only [wrapi_0, wrapi_1, wrapi_2, wrapi_3, wrapi_4]); simp only [Act.put, List.setIfInBounds_toArray, List.set_cons_zero, List.set_cons_succ]))
  refine plan_fi (fun K hK => ?_)
  go_simp
  refine HT.out.mono ?_
  rintro e w2 ⟨rfl, g1, g2, g3⟩
  refine hK.out _ _ ?_
  clear hK K
  have hkr : KR z w w2 := KR.wb ((HM1.out.trans (KR.of_below ((Below.refl _ w1).drew))).trans g2) HBW.out
  have hss := HH.out.step hkr g1.gi HX.out
  have HF := Aside0.mk (And.intro hss (And.intro (hkr.sz HH.out.nowk) ((HB1.out.mono hB).trans (((Below.refl _ w1).drew.mono (Nat.le_trans hB HB1.out.size)).trans g3))))
  clear g1 g2 g3 hkr hss
  repeat (first
    | (refine' plan_pu _ (by rfl) (fun w' => ?_) ?_; rotate_left 1; (focus (go_simp; try (with_reducible rfl))); (try simp only [wrapi_0, wrapi_1, wrapi_2, wrapi_3, wrapi_4]); simp only [Act.put, List.setIfInBounds_toArray, List.set_cons_zero, List.set_cons_succ])
    | (refine' plan_off (by rfl) ?_; (try simp only [wrapi_0, wrapi_1, wrapi_2, wrapi_3, wrapi_4]); simp only [Act.put, List.setIfInBounds_toArray, List.set_cons_zero, List.set_cons_succ])
    | (refine' plan_offL (by rfl) ?_; (try simp only [wrapi_0, wrapi_1, wrapi_2, wrapi_3, wrapi_4]); simp only [Act.put, List.setIfInBounds_toArray, List.set_cons_zero, List.set_cons_succ])
    | (refine' plan_offE (by rfl) (by first | assumption | exact (by assumption)) ?_; (try simp only [wrapi_0, wrapi_1, wrapi_2, wrapi_3, wrapi_4]); simp only [Act.put, List.setIfInBounds_toArray, List.set_cons_zero, List.set_cons_succ])
    | (refine' plan_ld _ (by rfl) (fun w' hSw => ?_) ?_; rotate_left 1; (focus ((try dsimp only at hSw); skip; go_simp; try (with_reducible rfl))); (try simp only [wrapi_0, wrapi_1, wrapi_2, wrapi_3, wrapi_4]); simp only [Act.put, List.setIfInBounds_toArray, List.set_cons_zero, List.set_cons_succ]))
  refine plan_nil ?_
  go_wp2_with fail
  go_returns
  exact ⟨rfl, HF.out⟩
end Go.Proofs.YthhnhbpmpdminaaGreatDoor
/-
read.Scope: Declare. Conditions: the reader in memory.
-/
namespace Go.Proofs.YthhnhbpmpdminaaGreatDoor
set_option maxRecDepth 4096
set_option maxHeartbeats 8000000
set_option linter.unusedSimpArgs false
set_option linter.unusedVariables false
set_option linter.unnecessarySimpa false
open Go.RowKit Go.Proofs.YthhnhbpmpdminaaGreatDoorW.PrintWords Go.Maps PReadTwice
theorem right_any (n : Int) (W : World) : Calls Tryz.prog 71 #[.int .i64 n] W fun e W' => e = .returned (.bool (isSort n)) ∧ Below W.heap.size W W' := by
  refine (read_right.calls n (isSort n) W ?_).mono fun e W' ⟨h1, h2⟩ => ⟨h1, h2.below⟩
  unfold read_right.f isSort
  by_cases h : n ≥ 0
  · rw [if_pos h, decide_eq_true (show 0 ≤ n from h)]; rfl
  · rw [if_neg h, decide_eq_false (show ¬ 0 ≤ n from h)]; rfl
theorem Declare_any (z : Zr) (w : World) (s : Sc) (nm : ByteArray) (sort : Int) (h : SS z w s) (hB : z.B ≤ w.heap.size) (hnz : nm.size ≤ maxLen) (hso : i64ok sort) (hn : s.E.length < 999999) :
    Calls Tryz.prog 35 #[.pointer (some ⟨z.sb, 0, none⟩), .string nm, .int .i64 sort] w fun e w' => e = .returned (.int .i64 (declF nm sort s).1) ∧ SS z w' (declF nm sort s).2 ∧ Mod (SZ z w) w w' ∧ Below z.B w w' := by
  obtain ⟨R, hR⟩ : ∃ R, declF nm sort s = R := ⟨_, rfl⟩
  rw [hR]
  unfold declF at hR
  have HH := Aside0.mk h
  have HBB : Aside0 (∀ w', Below w.heap.size w w' → SS z w' s ∧ Mod (SZ z w) w w' ∧ Below z.B w w') := ⟨fun w' hb => ⟨h.below hb, Mod.of_below hb, hb.mono hB⟩⟩
  obtain ⟨nb, hnb⟩ : ∃ nb, nameB nm.data.toList = nb := ⟨_, rfl⟩
  rw [hnb] at hR
  have HNB := Aside0.mk hnb
  have HNZ := Aside0.mk hnz
  have HSO := Aside0.mk hso
  clear h hnb hso
  cases nb with
  | false =>
    rw [if_pos rfl] at hR
    subst hR
    go_enter Tryz.func35, Tryz.ntmps35
    go_wp2_with fail
    refine (readName_any nm _ (by unfold maxLen at hnz; omega)).mono ?_
    rintro e w1 ⟨rfl, hB1⟩
    rw [HNB.out]
    have HB1 := Aside0.mk hB1
    clear hB1
    go_wp2_with fail
    go_returns
    exact ⟨rfl, HBB.out _ HB1.out⟩
  | true =>
    rw [if_neg (by simp)] at hR
    have hkey := WideMaps.keyOf_string_mk (P := Tryz.prog) Tryz.underlying9 hnz
    have HKEY := Aside0.mk hkey
    have HR := Aside0.mk hR
    clear hkey hR
    go_enter Tryz.func35, Tryz.ntmps35
    go_wp2_with fail
    refine (readName_any nm _ (by unfold maxLen at hnz; omega)).mono ?_
    rintro e w1 ⟨rfl, hB1⟩
    rw [HNB.out]
    have HB1 := Aside0.mk hB1
    have HH1 := Aside0.mk (HH.out.below hB1)
    clear hB1
    obtain ⟨vl, cs, hI, hE⟩ := HH1.out.sc
    have HI := Aside0.mk hI
    have HE := Aside0.mk hE
    have c2 := hI.scope.cell 2 _ rfl
    have c0 := hI.scope.cell 0 _ rfl
    obtain ⟨D, hD, hA⟩ := hI.at_
    have HD := Aside0.mk hD
    have HA := Aside0.mk (hA nm HNZ.out)
    clear hI hE hD hA
    obtain ⟨X, hX⟩ : ∃ X, exi nm s.E = X := ⟨_, rfl⟩
    rw [hX] at HA HR
    have HX := Aside0.mk hX
    clear hX
    cases X with
    | succ k =>
      have hR := HR.out
      rw [if_pos (by omega)] at hR
      subst hR
      have hk : (0 : Int) < ((k + 1 : Nat) : Int) := by omega
      obtain ⟨K, hK⟩ : ∃ K, ((k + 1 : Nat) : Int) = K := ⟨_, rfl⟩
      rw [hK] at HA hk
      go_wp2_with (at_lookup; refine wpList_lookup_own_int _ rfl _ _ 121 rfl 9 3 .i64 strLaw Tryz.underlying121 Tryz.underlying3 (Tryz.zeroInt _) z.ab s.E.length D rfl HD.out _ _ rfl HKEY.out ?_; intro c hat hwc; obtain rfl : c = K := (by have := hat.symm.trans HA.out; simpa using this); clear hat hwc)
      go_returns
      exact ⟨rfl, HBB.out _ HB1.out⟩
    | zero =>
      have hR := HR.out
      rw [if_neg (by omega)] at hR
      have HR := Aside0.mk hR
      clear hR
      rw [show ((0 : Nat) : Int) = 0 from rfl] at HA
      obtain ⟨rt, hrt⟩ : ∃ rt, isSort sort = rt := ⟨_, rfl⟩
      rw [hrt] at HR
      have HRT := Aside0.mk hrt
      clear hrt
      go_wp2_with (at_lookup; refine wpList_lookup_own_int _ rfl _ _ 121 rfl 9 3 .i64 strLaw Tryz.underlying121 Tryz.underlying3 (Tryz.zeroInt _) z.ab s.E.length D rfl HD.out _ _ rfl HKEY.out ?_; intro c hat hwc; obtain rfl : c = 0 := (by have := hat.symm.trans HA.out; simpa using this); clear hat hwc)
      refine (right_any sort _).mono ?_
      rintro e w2 ⟨rfl, hB2⟩
      rw [HRT.out]
      have HB2 := Aside0.mk (HB1.out.trans (hB2.mono HB1.out.size))
      have HH2 := Aside0.mk (HH1.out.below hB2)
      clear hB2 c0 c2
      cases rt with
      | false =>
        have hR := HR.out
        rw [if_pos rfl] at hR
        subst hR
        go_wp2_with fail
        go_returns
        exact ⟨rfl, HBB.out _ HB2.out⟩
      | true =>
        have hR := HR.out
        rw [if_neg (by simp)] at hR
        obtain ⟨vn, hg⟩ := HH2.out.gi
        obtain ⟨vl2, cs2, hI2, hE2⟩ := HH2.out.sc
        have c0 := hI2.scope.cell 0 _ rfl
        have hx : (ndV nm sort).Wf := ⟨by unfold i64ok ndV; simp, HSO.out, by unfold i64ok ndV nd0; simp, by unfold i64ok ndV nd0; simp, by unfold i64ok ndV nd0; simp, by unfold i64ok ndV nd0; simp, by unfold i64ok ndV nd0; simp, by unfold i64ok ndV nd0; simp, by unfold u64ok ndV nd0; simp, by unfold u64ok ndV nd0; simp, HNZ.out⟩
        have hmk := Make_any z.B z.g z.bi z.bn s.G vn (ndV nm sort) w2 hg (Nat.le_trans hB HB2.out.size) hx
        have hcl : (ndV nm sort).cells = [.int .i64 2, .int .i64 sort, .int .i64 0, .int .i64 0, .int .i64 0, .int .i64 0, .int .i64 0, .int .i64 0, .int .u64 0, .int .u64 0, .string nm] := rfl
        rw [hcl] at hmk
        obtain ⟨M, hM⟩ : ∃ M, mk s.G (ndV nm sort) = M := ⟨_, rfl⟩
        rw [hM] at hmk hR
        have HEX : Aside0 (Ext s.G M.2) := ⟨by rw [← hM]; exact mk_ext _ _⟩
        have HVAR : Aside0 (M.1.2 = 0 → nix M.2.l nm ≠ 0) := ⟨fun q => by rw [← hM] at q ⊢; exact mk_var q⟩
        have HMK := Aside0.mk hmk
        have HR := Aside0.mk hR
        clear hg hI2 hE2 hx hmk hcl hM hR
        obtain ⟨⟨mid, mer⟩, mG⟩ := M
        dsimp only at HEX HVAR HR
        go_wp2_with fail
        refine HMK.out.mono ?_
        rintro e w3 ⟨rfl, hg3, hk3, hB3⟩
        have hkr := KR.of_kg hk3
        have HKR := Aside0.mk hkr
        have HH3 := Aside0.mk (HH2.out.step hkr hg3 HEX.out)
        have HB3 := Aside0.mk ((HB2.out.mono hB).trans hB3)
        have HM3 := Aside0.mk ((KR.of_below HB2.out).trans hkr)
        clear hg3 hk3 hB3 hkr c0
        by_cases hme : mer = 0
        · subst hme
          have hR := HR.out
          rw [if_neg (by simp)] at hR
          subst hR
          obtain ⟨vl3, cs3, hI3, hE3⟩ := HH3.out.sc
          have he : EntS (FX z w3) w3 (entD nm sort) [.string nm, .bool false, .slice none 0 0, .int .i64 sort, .string ⟨#[]⟩, .bool false, .slice none 0 0] :=
            ⟨none, 0, none, 0, rfl, Nat.le_refl _, by omega, fun j p hj => by simp [entD] at hj, RT_mk (entD nm sort).body (A := none) (c := 0) (Nat.le_refl _) (by omega) (Nat.zero_le _) (RL_nil _ _ _ _) (by simp [entD]), HNZ.out, HSO.out⟩
          have heo : EntOk z w3 (entD nm sort) [.string nm, .bool false, .slice none 0 0, .int .i64 sort, .string ⟨#[]⟩, .bool false, .slice none 0 0] := EntS.ok (he.move (fun _ _ => rfl) (fun k hk => hk.1))
          have hsz3 : z.B ≤ w3.heap.size := Nat.le_trans hB HM3.out.size
          have hla := lay_any z w3 s.E vl3 cs3 s.defs (entD nm sort) _ hI3 hsz3 HH3.out.sb HH3.out.ab heo HX.out hn
          have HLA := Aside0.mk hla
          have HDEC : Aside0 (Dec (s.E ++ [entD nm sort]) mG) := ⟨fun e' he' hd => by
            rcases List.mem_append.1 he' with q | q
            · exact HH3.out.dec e' q hd
            · rw [List.mem_singleton] at q
              subst q
              exact HVAR.out rfl⟩
          have HFIN : Aside0 (∀ w' vl', LayPost z w3 s.E vl3 cs3 s.defs (entD nm sort) [.string nm, .bool false, .slice none 0 0, .int .i64 sort, .string ⟨#[]⟩, .bool false, .slice none 0 0] w' vl' → SS z w' { E := s.E ++ [entD nm sort], G := mG, defs := s.defs } ∧ Mod (SZ z w) w w' ∧ Below z.B w w') := ⟨fun w' vl' P => by
            refine ⟨SS.laid (s := { E := s.E, G := mG, defs := s.defs }) HH3.out.nowk HH3.out.gi hI3 hE3 HH3.out.sb HH3.out.ab HH3.out.eb he hn P HDEC.out rfl, ?_, HB3.out.trans P.below⟩
            have h1 := HM3.out.sz HH.out.nowk
            refine ⟨P.mod.os.trans h1.os, P.mod.tape.trans h1.tape, P.mod.output.trans h1.output, Nat.le_trans h1.size P.mod.size, fun k hk hnk => (P.mod.keep k (Nat.lt_of_lt_of_le hk h1.size) (fun q => ?_)).trans (h1.keep k hk hnk)⟩
            rcases q with q | q | q
            · exact hnk (.inr (.inl q))
            · exact hnk (.inr (.inr (.inl q)))
            · obtain ⟨l, hl⟩ := own_cells hI3.row k q
              exact hnk (.inr (.inr (.inr ⟨l, by unfold Cells at hl ⊢; rw [← h1.keep k hk hnk]; exact hl⟩)))⟩
          clear hla he heo hI3 hE3 hsz3
          go_wp2_with fail
          refine HLA.out.mono ?_
          rintro e w4 ⟨rfl, vl', hP⟩
          have HF := Aside0.mk (HFIN.out _ _ hP)
          clear hP
          go_wp2_with fail
          go_returns
          exact ⟨rfl, HF.out⟩
        · have hme2 : (mer != 0) = true := by simpa using hme
          have hR := HR.out
          rw [if_pos hme] at hR
          subst hR
          clear hme
          go_wp2_with fail
          go_returns
          exact ⟨rfl, HH3.out, HM3.out.sz HH.out.nowk, HB3.out⟩
end Go.Proofs.YthhnhbpmpdminaaGreatDoor
