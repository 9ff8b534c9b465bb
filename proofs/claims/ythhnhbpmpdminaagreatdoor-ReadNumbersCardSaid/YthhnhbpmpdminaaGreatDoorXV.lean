/-
Several texts as one: Rsp Rly.
-/
import Derived.Test.YthhnhbpmpdminaaGreatDoorRpu
import Derived.Test.YthhnhbpmpdminaaGreatDoorXO
/-
Scopes as plain things: what Declare and Define tell, and what becomes of the names; a refused text has no number. Conditions: none.
-/
namespace Go.Proofs.YthhnhbpmpdminaaGreatDoor
set_option maxRecDepth 4096
open Go.RowKit
def ZId (m : Rs) : Prop := m.1.2 ≠ 0 → m.1.1 = 0
theorem ZId.fail (e : Int) (r : Rd) : ZId (failF e r) := fun _ => rfl
theorem ZId.ok (i : Nat) (r : Rd) : ZId ((i, 0), r) := fun h => absurd rfl h
theorem ZId.make (x : Nd) (r : Rd) : ZId (makeF x r) := by
  unfold ZId makeF mk
  repeat' split
  all_goals first | exact fun _ => rfl | exact fun h => absurd rfl h
theorem ZId.then_ {m : Rs} {f : Nat → Rd → Rs} (h : ∀ i r, ZId (f i r)) : ZId (thenF m f) := by
  unfold thenF
  split
  · exact ZId.fail _ _
  · exact h _ _
theorem ZId.thenL {m : Ls} {f : List Nat → Rd → Rs} (h : ∀ i r, ZId (f i r)) : ZId (thenL m f) := by
  unfold Go.Proofs.YthhnhbpmpdminaaGreatDoor.thenL
  split
  · exact ZId.fail _ _
  · exact h _ _
theorem ZId.left (op : Int) : ∀ (l : List Nat) (o : Nat) (r : Rd), ZId (leftF op l o r)
  | [], o, r => by unfold leftF; exact ZId.ok _ _
  | b :: t, o, r => by unfold leftF; exact ZId.then_ fun i r => ZId.left op t i r
theorem ZId.right (op : Int) : ∀ (l : List Nat) (o : Nat) (r : Rd), ZId (rightF op l o r)
  | [], o, r => by unfold rightF; exact ZId.ok _ _
  | b :: t, o, r => by unfold rightF; exact ZId.then_ fun i r => ZId.right op t i r
theorem ZId.apply (op p q : Int) (ids : List Nat) (r : Rd) : ZId (applyF op p q ids r) := by
  unfold applyF
  split
  · unfold chainF; exact ZId.thenL fun i r => ZId.left _ _ _ _
  · split
    · unfold distinctF; exact ZId.thenL fun i r => ZId.left _ _ _ _
    · split
      · exact ZId.right _ _ _ _
      · split
        · exact ZId.left _ _ _ _
        · exact ZId.make _ _
theorem ZId.operator (rec : Tm) (op p q : Int) (l : List Sx) (b : Bnd) (lim : Nat) (r : Rd) : ZId (operatorF rec op p q l b lim r) := by
  unfold operatorF
  split
  · exact ZId.fail _ _
  · exact ZId.thenL fun i r => ZId.apply _ _ _ _ _
theorem ZId.numbered (rec : Tm) (h l : List Sx) (b : Bnd) (lim : Nat) (r : Rd) : ZId (numberedF rec h l b lim r) := by
  unfold numberedF
  repeat' split
  all_goals first | exact ZId.fail _ _ | exact ZId.operator _ _ _ _ _ _ _ _
theorem ZId.bits (l : List Sx) (r : Rd) : ZId (bitsF l r) := by
  unfold bitsF
  repeat' split
  all_goals first | exact ZId.fail _ _ | exact ZId.make _ _
theorem ZId.body (rec : Tm) (e : Ent) (i : Nat) (ids : List Nat) (r : Rd) : ZId (bodyF rec e i ids r) := by
  unfold bodyF
  refine ZId.then_ fun i r => ?_
  split
  · exact ZId.fail _ _
  · exact ZId.ok _ _
theorem ZId.let_ {rec : Tm} (hr : ∀ x b lim r, ZId (rec x b lim r)) (l : List Sx) (b : Bnd) (lim : Nat) (r : Rd) : ZId (letF rec l b lim r) := by
  unfold letF
  repeat' split
  all_goals first | exact ZId.fail _ _ | exact ZId.thenL fun i r => hr _ _ _ _
theorem ZId.use (rec : Tm) (E : List Ent) (s : ByteArray) (l : List Sx) (b : Bnd) (lim : Nat) (r : Rd) : ZId (useF E rec s l b lim r) := by
  unfold useF
  repeat' split
  all_goals first | exact ZId.fail _ _ | skip
  refine ZId.thenL fun i r => ?_
  split
  · exact ZId.fail _ _
  · exact ZId.body _ _ _ _ _
theorem ZId.word (rec : Tm) (E : List Ent) (s : ByteArray) (b : Bnd) (lim : Nat) (r : Rd) : ZId (wordF E rec s b lim r) := by
  unfold wordF
  repeat' split
  all_goals first | exact ZId.fail _ _ | exact ZId.ok _ _ | exact ZId.make _ _ | exact ZId.body _ _ _ _ _
theorem ZId.list {rec : Tm} (hr : ∀ x b lim r, ZId (rec x b lim r)) (E : List Ent) (l : List Sx) (b : Bnd) (lim : Nat) (r : Rd) : ZId (listF E rec l b lim r) := by
  unfold listF
  repeat' split
  all_goals first | exact ZId.fail _ _ | exact ZId.numbered _ _ _ _ _ _ | exact ZId.let_ hr _ _ _ _ | exact ZId.bits _ _ | exact ZId.use _ _ _ _ _ _ _ | exact ZId.operator _ _ _ _ _ _ _ _
theorem ZId.tm (E : List Ent) : ∀ (k : Nat) (x : Sx) (b : Bnd) (lim : Nat) (r : Rd), ZId (tmF E k x b lim r)
  | 0, x, b, lim, r => by unfold tmF; exact ZId.fail _ _
  | k + 1, x, b, lim, r => by
    unfold tmF
    repeat' split
    all_goals first | exact ZId.fail _ _ | exact ZId.word _ _ _ _ _ _ | exact ZId.list (ZId.tm E k) _ _ _ _ _
theorem term_id0 (E : List Ent) (x : Sx) (G : Gr) (h : (termF E x G).1.2 ≠ 0) : (termF E x G).1.1 = 0 := ZId.tm E 200 x [] E.length ⟨0, G⟩ h
theorem exi_append (s : ByteArray) (y : Ent) : ∀ (E : List Ent), exi s (E ++ [y]) = if exi s E = 0 then (if y.name.data.toList == s.data.toList then E.length + 1 else 0) else exi s E
  | [] => by simp [exi]
  | z :: r => by
    have ih := exi_append s y r
    rw [List.cons_append]
    unfold exi
    by_cases hs : (z.name.data.toList == s.data.toList) = true
    · rw [if_pos hs, if_pos hs]; simp
    · rw [if_neg hs, if_neg hs, ih]
      cases hk : exi s r with
      | zero =>
        by_cases hy : (y.name.data.toList == s.data.toList) = true
        · simp only [if_pos hy, if_true]; simp
        · simp only [if_neg hy, if_true]
      | succ k => simp
def ndV (nm : ByteArray) (sort : Int) : Nd := { nd0 with op := 2, sort := sort, name := nm }
def entD (nm : ByteArray) (sort : Int) : Ent := ⟨nm, false, [], sort, ⟨⟨#[]⟩, false, []⟩⟩
structure Sc where
  E : List Ent
  G : Gr
  defs : Nat
def declF (nm : ByteArray) (sort : Int) (s : Sc) : Int × Sc :=
  if nameB nm.data.toList = false then (50, s) else if exi nm s.E ≠ 0 then (52, s) else if isSort sort = false then (53, s)
  else if (mk s.G (ndV nm sort)).1.2 ≠ 0 then ((mk s.G (ndV nm sort)).1.2, { s with G := (mk s.G (ndV nm sort)).2 })
  else (0, { s with E := s.E ++ [entD nm sort], G := (mk s.G (ndV nm sort)).2 })
def defBad (nm : ByteArray) (ps : List (ByteArray × Int)) (sort : Int) (E : List Ent) (defs : Nat) : Int :=
  if (nameB nm.data.toList && ps.all fun p => nameB p.1.data.toList) = false then 50
  else if (decide (exi nm E ≠ 0) || twiceV (ps.map (·.1))) = true then 52
  else if (isSort sort && ps.all fun p => isSort p.2) = false then 53
  else if defs = 256 then 55 else 0
def defF (nm : ByteArray) (ps : List (ByteArray × Int)) (sort : Int) (x : Sx) (s : Sc) : Int × Sc :=
  if defBad nm ps sort s.E s.defs ≠ 0 then (defBad nm ps sort s.E s.defs, s) else (0, { s with E := s.E ++ [⟨nm, true, ps, sort, x⟩], defs := s.defs + 1 })
def namesV (E : List Ent) : List (ByteArray × Int) := (E.filter fun e => !e.defined).map fun e => (e.name, e.sort)
theorem ix_nix {x : Nd} (ho : x.op = 2) : ∀ {l : List Nd}, ix l x ≠ 0 → nix l x.name ≠ 0 := fun {l} h h0 => by
  cases hk : ix l x with
  | zero => exact h hk
  | succ k =>
    have := ix_get hk
    exact nix_zero.1 h0 x (List.mem_of_getElem? this) ho rfl
theorem mk_var {G : Gr} {nm : ByteArray} {sort : Int} (h : (mk G (ndV nm sort)).1.2 = 0) : nix (mk G (ndV nm sort)).2.l nm ≠ 0 := by
  have hs : (sortedV G.l (ndV nm sort)).1 = ndV nm sort := (sorted_name G.l (ndV nm sort)).2.2 rfl
  unfold mk at h ⊢
  rw [hs] at h ⊢
  split at h
  · simp at h
  · next h1 =>
    rw [if_neg h1]
    split at h
    · next h2 => exact absurd h h2
    · next h2 =>
      rw [if_neg h2]
      split at h
      · next h3 => rw [if_pos h3]; exact ix_nix (x := ndV nm sort) rfl h3
      · next h3 =>
        rw [if_neg h3]
        split at h
        · simp at h
        · next h4 =>
          rw [if_neg h4]
          simp only
          rw [nix_append]
          by_cases q : nix G.l nm = 0
          · rw [if_pos q, if_pos (by simp [ndV])]; omega
          · rw [if_neg q]; exact q
/-- What was read may be read again. -/
def Again (E : List Ent) (G : Gr) (x : Sx) (id : Nat) : Prop := id = 0 ∨ ∃ E0 G0, E0 <+: E ∧ Dec E0 G0 ∧ (termF E0 x G0).1 = (id, 0) ∧ Ext (termF E0 x G0).2.G G
theorem Again.grow {E E2 : List Ent} {G G2 : Gr} {x : Sx} {id : Nat} (h : Again E G x id) (hE : E <+: E2) (hG : Ext G G2) : Again E2 G2 x id := by
  rcases h with h | ⟨E0, G0, h1, h2, h3, h4⟩
  · exact .inl h
  · exact .inr ⟨E0, G0, h1.trans hE, h2, h3, h4.trans hG⟩
theorem Again.term {E : List Ent} {G : Gr} {x : Sx} (hd : Dec E G) : Again E (termF E x G).2.G x (termF E x G).1.1 := by
  by_cases h : (termF E x G).1.2 = 0
  · exact .inr ⟨E, G, List.prefix_refl _, hd, by rw [← h], .refl _⟩
  · exact .inl (term_id0 E x G h)
theorem Again.same {E : List Ent} {G : Gr} {x : Sx} {id : Nat} (h : Again E G x id) (hid : 0 < id) : (termF E x G).1 = (id, 0) ∧ (termF E x G).2.G = G := by
  rcases h with h | ⟨E0, G0, h1, h2, h3, h4⟩
  · omega
  · have := term_again h1 h2 (by rw [h3]) h4
    rw [this]
    exact ⟨h3, rfl⟩
end Go.Proofs.YthhnhbpmpdminaaGreatDoor
/-
read.Scope.lay: an entry more. Conditions: the scope in memory.
-/
namespace Go.Proofs.YthhnhbpmpdminaaGreatDoor
set_option maxRecDepth 4096
set_option maxHeartbeats 8000000
set_option linter.unusedSimpArgs false
set_option linter.unusedVariables false
set_option linter.unnecessarySimpa false
open Go.RowKit Go.Proofs.YthhnhbpmpdminaaGreatDoorW.PrintWords Go.Maps
theorem Tryz.infoEntry : (Tryz.prog.info? 129).map (fun i => (i.zero, i.size, i.bytes)) = some (some (.agg ent0.toArray), 7, 104) := by kernel_rfl
theorem AtOk.put {D : DataW Unit} {E : List Ent} (h : AtOk D E) (hm : Maps.IsMap D) {e : Ent} (h0 : exi e.name E = 0) : AtOk (D.put (.string e.name.data.toList) (.lit (.int .i64 ((E.length + 1 : Nat) : Int)))) (E ++ [e]) := by
  intro s hs
  by_cases q : e.name = s
  · subst q
    rw [Maps.atKey_put_same hm (show WideAt.IsKeyLit (Lit.string e.name.data.toList) from trivial), exi_append, if_pos h0, if_pos (by simp)]
  · have hne : Lit.string s.data.toList ≠ Lit.string e.name.data.toList := fun q2 => by
      simp only [Lit.string.injEq] at q2
      exact q (ba_ext q2.symm)
    have hb : ¬ (e.name.data.toList == s.data.toList) = true := fun q2 => q (ba_ext (by simpa using q2))
    rw [Maps.atKey_put_other hne, h s hs, exi_append]
    by_cases hz : exi s E = 0
    · rw [if_pos hz, if_neg hb, hz]
    · rw [if_neg hz]
theorem gmap_ne {k : TypeId} {w : World} {b n t g : Nat} {D : DataW Unit} {l : List Value} (h : gmap k w b n D) (hc : Cells w g t l) : b ≠ g := fun q => by
  subst q
  obtain ⟨es, cl, hm1, _⟩ := h
  unfold Cells at hc; rw [hc] at hm1; cases hm1
structure LayPost (z : Zr) (w : World) (E : List Ent) (vl : Value) (cs : List Value) (defs : Int) (e : Ent) (ec : List Value) (w' : World) (vl' : Value) : Prop where
  scope : Cells w' z.sb 127 [.pointer (some ⟨z.g, 0, none⟩), vl', .map (some z.ab), .int .i64 defs]
  row : w'.ownsRow z.B 129 7 vl' (E.length + 1) (cs ++ ec)
  at_ : ∃ D, gmap 9 w' z.ab (E.length + 1) D ∧ AtOk D (E ++ [e])
  mod : Mod (fun k => k = z.sb ∨ k = z.ab ∨ vl.ownBlock = some k) w w'
  below : Below z.B w w'
  own : ∀ k, vl'.ownBlock = some k → vl.ownBlock = some k ∨ w.heap.size ≤ k
set_option maxHeartbeats 40000000 in
theorem lay_any (z : Zr) (w : World) (E : List Ent) (vl : Value) (cs : List Value) (defs : Int) (e : Ent) (ec : List Value) (h : SI z w E vl cs defs) (hB : z.B ≤ w.heap.size) (hsb : z.B ≤ z.sb) (hab : z.B ≤ z.ab) (he : EntOk z w e ec) (h0 : exi e.name E = 0) (hn : E.length < 999999) :
    Calls Tryz.prog 73 #[.pointer (some ⟨z.sb, 0, none⟩), .agg ec.toArray] w fun en w' => en = .returned (.tuple #[]) ∧ ∃ vl', LayPost z w E vl cs defs e ec w' vl' := by
  obtain ⟨A, cap, rfl⟩ : ∃ A c, vl = .slice A E.length c := by
    rcases h.row.2 with ⟨q, q0⟩ | ⟨b, cap, cur, q, _⟩
    · exact ⟨none, 0, by rw [q0]; exact q⟩
    · exact ⟨_, _, q⟩
  obtain ⟨pa, pc, ba, bc, rfl, _, _, _, _, hnz, _⟩ := he
  obtain ⟨nm, hnm⟩ : ∃ nm, e.name = nm := ⟨_, rfl⟩
  obtain ⟨pl, hpl⟩ : ∃ nm, e.params.length = nm := ⟨_, rfl⟩
  obtain ⟨bl, hbl⟩ : ∃ nm, e.body.kids.length = nm := ⟨_, rfl⟩
  obtain ⟨ec, hec⟩ : ∃ l, [Value.string e.name, .bool e.defined, .slice pa e.params.length pc, .int .i64 e.sort, .string e.body.word, .bool e.body.list, .slice ba e.body.kids.length bc] = l := ⟨_, rfl⟩
  have HE1 : Aside0 (∀ u ∈ ec, u.oneCell' = true) := ⟨by rw [← hec]; simp [Value.oneCell']⟩
  have HEL : Aside0 (ec.length = 7) := ⟨by rw [← hec]; rfl⟩
  have hcell : ∀ (W : World) (g : Nat), Cells W g 129 ec → W.cell? ⟨g, 0, none⟩ = some (.string nm) ∧ W.cell? ⟨g, 1, none⟩ = some (.bool e.defined) ∧ W.cell? ⟨g, 2, none⟩ = some (.slice pa pl pc) ∧ W.cell? ⟨g, 3, none⟩ = some (.int .i64 e.sort) ∧ W.cell? ⟨g, 4, none⟩ = some (.string e.body.word) ∧ W.cell? ⟨g, 5, none⟩ = some (.bool e.body.list) ∧ W.cell? ⟨g, 6, none⟩ = some (.slice ba bl bc) := fun W g hc => by
    rw [← hec, hnm, hpl, hbl] at hc
    exact ⟨hc.cell 0 _ rfl, hc.cell 1 _ rfl, hc.cell 2 _ rfl, hc.cell 3 _ rfl, hc.cell 4 _ rfl, hc.cell 5 _ rfl, hc.cell 6 _ rfl⟩
  have HEQ : Aside0 ([Value.string nm, .bool e.defined, .slice pa pl pc, .int .i64 e.sort, .string e.body.word, .bool e.body.list, .slice ba bl bc] = ec) := ⟨by rw [← hnm, ← hpl, ← hbl]; exact hec⟩
  have hnz2 : nm.size ≤ maxLen := by rw [← hnm]; exact hnz
  rw [hec]
  rw [show ec.toArray = #[Value.string nm, .bool e.defined, .slice pa pl pc, .int .i64 e.sort, .string e.body.word, .bool e.body.list, .slice ba bl bc] by rw [← HEQ.out]]
  have HH := Aside0.mk h
  have H0 := Aside0.mk h0
  have HCL := Aside0.mk hcell
  have HNZ := Aside0.mk hnz2
  have hnm := Aside0.mk hnm
  obtain ⟨D0, hD0, hA0⟩ := h.at_
  have HD0 := Aside0.mk hD0
  have HA0 := Aside0.mk hA0
  have HV := Aside0.mk (own_lt_size h.row)
  clear hpl hbl hec hcell h h0 hnz hnz2 hD0 hA0
  go_enter Tryz.func73, Tryz.ntmps73
  go_upto_region 1 with (fail)
  obtain ⟨w0, hw0⟩ : ∃ w0, w.alloc (.cells #[.string nm, .bool e.defined, .slice pa pl pc, .int .i64 e.sort, .string e.body.word, .bool e.body.list, .slice ba bl bc] 129) = w0 := ⟨_, rfl⟩
  have hb0 : Below w.heap.size w w0 := by rw [← hw0]; exact (Below.refl _ w).alloc (Nat.le_refl _) _
  have hc0 : Cells w0 w.heap.size 129 ec := by rw [← hw0, ← HEQ.out]; exact Cells.new w _ _
  rw [hw0]
  have HG4 : Aside0 (SI z w0.drew E (.slice A E.length cap) cs defs) := ⟨HH.out.next ((KR.of_below hb0).drew)⟩
  have HB4 : Aside0 (Below w.heap.size w w0.drew) := ⟨hb0.drew⟩
  have HC7 : Aside0 (Cells w0.drew w.heap.size 129 ec) := ⟨hc0.drew⟩
  clear hw0 hb0 hc0
  refine wp_plan [(0, 0), (0, 1), (0, 2), (0, 3), (1, 4), (1, 5), (2, 6), (3, 7), (0, 8), (0, 9), (3, 10)] (fun w' => Cells w' z.sb 127 [.pointer (some ⟨z.g, 0, none⟩), .slice A E.length cap, .map (some z.ab), .int .i64 defs] ∧ Cells w' w.heap.size 129 ec) (by kernel_rfl) (by kernel_rfl) (fun _ _ d _ _ h => by cases d <;> exact h) ⟨HG4.out.scope, HC7.out⟩ ?_
  simp only [planOps, List.filterMap_cons, List.filterMap_nil, List.getElem?_toArray, List.getElem?_cons_zero, List.getElem?_cons_succ, Option.map_some]
  obtain ⟨w4, hw4⟩ : ∃ w4, w0.drew = w4 := ⟨_, rfl⟩
  rw [hw4] at HG4 HB4 HC7 ⊢
  clear hw4
  repeat (first
    | (refine' plan_pu _ (by rfl) (fun w' => ?_) ?_; rotate_left 1; (focus (go_simp; try (with_reducible rfl))); (try simp only [wrapi_0, wrapi_1, wrapi_2, wrapi_3, wrapi_4]); simp only [Act.put, List.setIfInBounds_toArray, List.set_cons_zero, List.set_cons_succ])
    | (refine' plan_off (by rfl) ?_; (try simp only [wrapi_0, wrapi_1, wrapi_2, wrapi_3, wrapi_4]); simp only [Act.put, List.setIfInBounds_toArray, List.set_cons_zero, List.set_cons_succ])
    | (refine' plan_offL (by rfl) ?_; (try simp only [wrapi_0, wrapi_1, wrapi_2, wrapi_3, wrapi_4]); simp only [Act.put, List.setIfInBounds_toArray, List.set_cons_zero, List.set_cons_succ])
    | (refine' plan_offE (by rfl) (by first | assumption | exact (by assumption)) ?_; (try simp only [wrapi_0, wrapi_1, wrapi_2, wrapi_3, wrapi_4]); simp only [Act.put, List.setIfInBounds_toArray, List.set_cons_zero, List.set_cons_succ])
    | (refine' plan_ld _ (by rfl) (fun w' hSw => ?_) ?_; rotate_left 1; (focus ((try dsimp only at hSw); have c1 := hSw.1.cell 1 _ rfl; obtain ⟨y0, y1, y2, y3, y4, y5, y6⟩ := HCL.out _ _ hSw.2; go_simp; try (with_reducible rfl))); (try simp only [wrapi_0, wrapi_1, wrapi_2, wrapi_3, wrapi_4]); simp only [Act.put, List.setIfInBounds_toArray, List.set_cons_zero, List.set_cons_succ]))
  refine plan_ef (fun K hK => ?_)
  go_simp
  obtain ⟨w5, hw5⟩ : ∃ w5, (w4.alloc (.cells #[.string nm, .bool e.defined, .slice pa pl pc, .int .i64 e.sort, .string e.body.word, .bool e.body.list, .slice ba bl bc] 129)) = w5 := ⟨_, rfl⟩
  have HG5 : Aside0 (SI z w5 E (.slice A E.length cap) cs defs) := ⟨by rw [← hw5]; exact HG4.out.next (KR.of_below ((Below.refl _ w4).alloc (Nat.le_refl _) _))⟩
  have HB5 : Aside0 (Below w.heap.size w w5) := ⟨by rw [← hw5]; exact HB4.out.alloc HB4.out.size _⟩
  have HC8 : Aside0 (Cells w5 w.heap.size 129 ec) := ⟨by rw [← hw5]; exact HC7.out.alloc _⟩
  have HC9 : Aside0 (Cells w5 w4.heap.size 129 ec) := ⟨by rw [← hw5, ← HEQ.out]; exact Cells.new w4 _ _⟩
  rw [hw5]
  refine hK.out _ _ ⟨HG5.out.scope, HC8.out⟩ (fun _ => ?_)
  clear hK K hw5
  try simp only [Act.put, List.setIfInBounds_toArray, List.set_cons_zero, List.set_cons_succ]
  refine plan_fi (fun K hK => ?_)
  refine ap_at (w0 := w) w5 z.B (.tmp 8) (.tmp 10) 125 129 (.agg ent0.toArray) 7 104 (.slice A E.length cap) E.length cs ec ⟨w4.heap.size, 0, none⟩ 1 (fun j u hu => by rw [add0]; exact HC9.out.cell j u hu) (by rfl) rfl Tryz.underlying125 Tryz.infoEntry rfl (by decide) (by decide) (by rfl) (by simp [Act.eval]) HEL.out HE1.out HG5.out.row (HB5.out.mono hB) (Nat.le_trans hB HB5.out.size) (by omega) ?_
  intro v1 w6 hown1 hB6 hg1 hat1
  have hlt := HV.out
  have HSL : Aside0 (z.sb < w.heap.size ∧ z.ab < w.heap.size) := ⟨HH.out.sb.1, HH.out.ab.1⟩
  have HAT : Aside0 (∀ k, v1.ownBlock = some k → (Value.slice A E.length cap).ownBlock = some k ∨ w.heap.size ≤ k) := ⟨fun k q => by
    rcases hat1 with q1 | ⟨b, q1, hb⟩
    · exact .inl (by rw [← q1]; exact q)
    · rw [q1] at q
      have := HB5.out.size
      have e : b = k := by simpa using q
      exact .inr (by omega)⟩
  have hm6 : Mod (fun k => (Value.slice A E.length cap).ownBlock = some k) w5 w6 := (Mod.refl _ w5).grown hg1 (fun k hk => .inl hk)
  have hne : ∀ k, (Value.slice A E.length cap).ownBlock = some k → k ≠ z.sb ∧ k ≠ z.ab ∧ k ≠ w.heap.size := fun k hk => by
    have hlt := HV.out k hk
    obtain ⟨l', hl'⟩ := own_cells HG5.out.row k hk
    refine ⟨fun q => ?_, fun q => ?_, by omega⟩
    · subst q; exact own_ne_cells HG5.out.row HG5.out.scope (by decide) hk
    · obtain ⟨D, hD, _⟩ := HG5.out.at_
      exact gmap_ne hD hl' q.symm
  obtain ⟨b1, cap1, l1, rfl, hl1, _, _, _, _⟩ := own_row hown1 (by omega)
  have HC10 : Aside0 (Cells w6 z.sb 127 [.pointer (some ⟨z.g, 0, none⟩), .slice A E.length cap, .map (some z.ab), .int .i64 defs]) := ⟨HG5.out.scope.keep hm6 (fun q => (hne _ q).1 rfl)⟩
  have HC11 : Aside0 (Cells w6 w.heap.size 129 ec) := ⟨HC8.out.keep hm6 (fun q => (hne _ q).2.2 rfl)⟩
  have HM6 : Aside0 (w6.heap[z.ab]? = w.heap[z.ab]?) := ⟨(hm6.keep z.ab (by have := HSL.out.2; have := HB5.out.size; omega) (fun q => (hne _ q).2.1 rfl)).trans (HB5.out.block z.ab HSL.out.2)⟩
  have HK6 : Aside0 (Mod (fun k => k = z.sb ∨ k = z.ab ∨ (Value.slice A E.length cap).ownBlock = some k) w w6) := ⟨Mod.grown (Mod.of_below HB5.out) hg1 (fun k hk => .inl (.inr (.inr hk)))⟩
  have HO6 := Aside0.mk hown1
  have HB6 := Aside0.mk hB6
  have hb1 : b1 ≠ z.sb ∧ b1 ≠ z.ab ∧ b1 ≠ w.heap.size := by
    rcases hat1 with q | ⟨b, q, hb⟩
    · exact hne b1 q.symm
    · have e : b1 = b := by simpa [Value.ownBlock] using q
      have h1 := HSL.out
      have h2 := HB5.out.size
      have h3 := HC8.out.lt
      refine ⟨?_, ?_, ?_⟩ <;> omega
  have HB1 := Aside0.mk hb1
  clear hm6 hne hown1 hB6 hg1 hat1 hb1 hl1 hlt
  have s1 := HC10.out.cell 1 _ rfl
  have t1 := HC10.out.frozen 1
  refine hK.out _ _ ?_
  clear hK K
  repeat (first
    | (refine' plan_pu _ (by rfl) (fun w' => ?_) ?_; rotate_left 1; (focus (go_simp; try (with_reducible rfl))); simp only [Act.put, List.setIfInBounds_toArray, List.set_cons_zero, List.set_cons_succ]))
  refine plan_fi (fun K hK => ?_)
  go_simp
  refine hK.out _ _ (plan_nil ?_)
  clear hK K s1 t1
  obtain ⟨w7, hw7⟩ : ∃ w7, w6.setCell ⟨z.sb, 1, none⟩ (.slice (some ⟨b1, 0, none⟩) (E.length + 1) cap1) = w7 := ⟨_, rfl⟩
  have hm7 : Mod (fun k => k = z.sb) w6 w7 := by rw [← hw7]; exact (Mod.refl (fun k => k = z.sb) w6).setCell (p := ⟨z.sb, 1, none⟩) (.inl rfl) _
  have HC12 : Aside0 (Cells w7 z.sb 127 [.pointer (some ⟨z.g, 0, none⟩), .slice (some ⟨b1, 0, none⟩) (E.length + 1) cap1, .map (some z.ab), .int .i64 defs]) := ⟨by rw [← hw7]; exact HC10.out.set 1 _⟩
  have HC13 : Aside0 (Cells w7 w.heap.size 129 ec) := ⟨HC11.out.keep hm7 (by have := HSL.out; omega)⟩
  have HO7 : Aside0 (w7.ownsRow z.B 129 7 (.slice (some ⟨b1, 0, none⟩) (E.length + 1) cap1) (E.length + 1) (cs ++ ec)) := ⟨own_keep HO6.out hm7 (fun k hk q => by
    have e : b1 = k := by simpa [Value.ownBlock] using hk
    exact HB1.out.1 (e.trans q))⟩
  have HK7 : Aside0 (Mod (fun k => k = z.sb ∨ k = z.ab ∨ (Value.slice A E.length cap).ownBlock = some k) w w7) := ⟨by rw [← hw7]; exact Mod.setCell HK6.out (p := ⟨z.sb, 1, none⟩) (.inl (.inl rfl)) _⟩
  have HB7 : Aside0 (Below z.B w w7) := ⟨by rw [← hw7]; exact HB6.out.setCell (p := ⟨z.sb, 1, none⟩) hsb _⟩
  have hD7 : gmap 9 w7 z.ab E.length D0 := by
    refine gmap_heap (w := w) HD0.out ((hm7.keep z.ab ?_ ?_).trans HM6.out)
    · have := HSL.out; have := HK6.out.size; omega
    · exact gmap_ne HD0.out HH.out.scope
  rw [hw7]
  clear hw7 hm7 HC10 HC11 HO6 HK6 HB6 HM6
  go_upto_region 2 with (fail)
  refine wp_plan [(0, 0), (0, 1), (0, 2), (0, 4), (0, 6), (0, 7), (0, 8), (1, 3), (1, 5), (1, 9), (0, 10), (3, 11)] (fun w' => Cells w' z.sb 127 [.pointer (some ⟨z.g, 0, none⟩), .slice (some ⟨b1, 0, none⟩) (E.length + 1) cap1, .map (some z.ab), .int .i64 defs] ∧ Cells w' w.heap.size 129 ec) (by kernel_rfl) (by kernel_rfl) (fun _ _ d _ _ h => by cases d <;> exact h) ⟨HC12.out, HC13.out⟩ ?_
  simp only [planOps, List.filterMap_cons, List.filterMap_nil, List.getElem?_toArray, List.getElem?_cons_zero, List.getElem?_cons_succ, Option.map_some]
  repeat (first
    | (refine' plan_pu _ (by rfl) (fun w' => ?_) ?_; rotate_left 1; (focus (go_simp; try (with_reducible rfl))); (try simp only [wrapi_0, wrapi_1, wrapi_2, wrapi_3, wrapi_4]); simp only [Act.put, List.setIfInBounds_toArray, List.set_cons_zero, List.set_cons_succ])
    | (refine' plan_off (by rfl) ?_; (try simp only [wrapi_0, wrapi_1, wrapi_2, wrapi_3, wrapi_4]); simp only [Act.put, List.setIfInBounds_toArray, List.set_cons_zero, List.set_cons_succ])
    | (refine' plan_offL (by rfl) ?_; (try simp only [wrapi_0, wrapi_1, wrapi_2, wrapi_3, wrapi_4]); simp only [Act.put, List.setIfInBounds_toArray, List.set_cons_zero, List.set_cons_succ])
    | (refine' plan_offE (by rfl) (by first | assumption | exact (by assumption)) ?_; (try simp only [wrapi_0, wrapi_1, wrapi_2, wrapi_3, wrapi_4]); simp only [Act.put, List.setIfInBounds_toArray, List.set_cons_zero, List.set_cons_succ])
    | (refine' plan_ld _ (by rfl) (fun w' hSw => ?_) ?_; rotate_left 1; (focus ((try dsimp only at hSw); have c1 := hSw.1.cell 1 _ rfl; have c2 := hSw.1.cell 2 _ rfl; obtain ⟨y0, y1, y2, y3, y4, y5, y6⟩ := HCL.out _ _ hSw.2; go_simp; try (with_reducible rfl))); (try simp only [wrapi_0, wrapi_1, wrapi_2, wrapi_3, wrapi_4]); simp only [Act.put, List.setIfInBounds_toArray, List.set_cons_zero, List.set_cons_succ]))
  have hlm : E.length < maxLen := by unfold maxLen; omega
  have hkn := WideMaps.keyOf_string_mk (P := Tryz.prog) Tryz.underlying9 HNZ.out
  obtain ⟨w9, hrun, hown9, hgr9⟩ := World.ownsMap.update (World.ownsMap.drew hD7) strLaw Tryz.underlying121 hlm hkn (plainElem_int (H := Unit) Tryz.underlying3 (a := (E.length : Int) + 1) (WalkArith.wf_i64 (by omega)))
  refine plan_fi (fun K hK => ?_)
  go_simp
  refine hK.out _ _ (plan_nil ?_)
  clear hK K hrun
  have ec2 : ((E.length : Int) + 1) = ((E.length + 1 : Nat) : Int) := by omega
  rw [ec2] at hown9
  clear ec2
  have hm9 : Mod (fun k => k = z.ab) w7.drew w9 := (Mod.refl _ _).grown hgr9 (fun k hk => .inl (by simpa using hk.symm))
  have HP : Aside0 (LayPost z w E (.slice A E.length cap) cs defs e ec w9 (.slice (some ⟨b1, 0, none⟩) (E.length + 1) cap1)) := ⟨by
    refine ⟨(HC12.out.drew).grown hgr9 (by have := gmap_ne HD0.out HH.out.scope; simpa using this), own_keep (own_keep HO7.out ((Mod.refl (fun _ => False) w7).drew) (fun _ _ q => q)) hm9 (fun k hk q => by
      have e : b1 = k := by simpa [Value.ownBlock] using hk
      exact HB1.out.2.1 (by rw [e, q])), ⟨_, hown9, ?_⟩, Mod.grown (Mod.drew HK7.out) hgr9 (fun k hk => .inl (.inr (.inl (by simpa using hk.symm)))), HB7.out.drew.trans (hm9.belowB (fun k q => by rw [q]; exact hab) (Nat.le_trans hB HK7.out.size)), HAT.out⟩
    have := HA0.out.put hD7.isMap H0.out
    rw [hnm.out] at this
    exact this⟩
  clear hm9 hown9 hgr9 hD7
  go_wp2_with fail
  go_returns
  exact ⟨rfl, _, HP.out⟩
end Go.Proofs.YthhnhbpmpdminaaGreatDoor
