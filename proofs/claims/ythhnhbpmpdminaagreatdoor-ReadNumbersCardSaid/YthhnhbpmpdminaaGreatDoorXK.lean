/-
Several texts as one: Gis Gnd Gfm.
-/
import Derived.Test.YthhnhbpmpdminaaGreatDoorXJ
/-
A term graph in memory: what its blocks hold, and what a step leaves of it. Conditions: none.
-/
namespace Go.Proofs.YthhnhbpmpdminaaGreatDoor
set_option maxRecDepth 4096
set_option maxHeartbeats 8000000
set_option linter.unusedSimpArgs false
set_option linter.unusedVariables false
set_option linter.unnecessarySimpa false
open Go.RowKit Go.Proofs.YthhnhbpmpdminaaGreatDoorW.PrintWords Go.Maps
theorem add0 (b k : Nat) : (⟨b, 0, none⟩ : Addr).add k = ⟨b, k, none⟩ := by
  unfold Addr.add
  split
  · rename_i h; subst h; rfl
  · simp
/-- The map of nodes, and that of names. -/
def IdsOk (D : DataW Unit) (l : List Nd) : Prop := ∀ (x : Nd) (kl : Lit), x.Wf → keyOf Tryz.prog 112 (.agg x.cells.toArray) = some kl → D.atKey kl (.lit (.int .i64 0)) = .lit (.int .i64 (ix l x : Int))
def NamesOk (D : DataW Unit) (l : List Nd) : Prop := ∀ s : ByteArray, s.size ≤ maxLen → D.atKey (.string s.data.toList) (.lit (.int .i64 0)) = .lit (.int .i64 (nix l s : Int))
theorem IdsOk.nil : IdsOk (.map []) [] := fun x kl _ _ => rfl
theorem NamesOk.nil : NamesOk (.map []) [] := fun s _ => rfl
theorem IdsOk.put {D : DataW Unit} {l : List Nd} (h : IdsOk D l) (hm : Maps.IsMap D) {y : Nd} {kl : Lit} (hy : y.Wf) (hk : keyOf Tryz.prog 112 (.agg y.cells.toArray) = some kl) (h0 : ix l y = 0) : IdsOk (D.put kl (.lit (.int .i64 ((l.length + 1 : Nat) : Int)))) (l ++ [y]) := by
  intro x kx hx hkx
  by_cases e : y = x
  · subst e
    rw [hk] at hkx; cases hkx
    rw [Maps.atKey_put_same hm (nodeLaw.key hk), ix_append, if_pos h0, if_pos (Nd.same_iff.2 rfl)]
  · have hne : kx ≠ kl := by
      rintro rfl
      have := nodeLaw.inj hk hkx
      simp only [Value.agg.injEq] at this
      exact e (Nd.cells_inj (by simpa using this))
    rw [Maps.atKey_put_other hne, h x kx hx hkx, ix_append]
    by_cases hz : ix l x = 0
    · rw [if_pos hz, if_neg (by rw [Nd.same_iff]; exact e), hz]
    · rw [if_neg hz]
theorem IdsOk.same {D : DataW Unit} {l : List Nd} (h : IdsOk D l) : IdsOk D l := h
theorem NamesOk.put {D : DataW Unit} {l : List Nd} (h : NamesOk D l) (hm : Maps.IsMap D) {y : Nd} (hy : y.op = 2) (h0 : nix l y.name = 0) : NamesOk (D.put (.string y.name.data.toList) (.lit (.int .i64 ((l.length + 1 : Nat) : Int)))) (l ++ [y]) := by
  intro s hs
  by_cases e : y.name = s
  · subst e
    rw [Maps.atKey_put_same hm (show WideAt.IsKeyLit (Lit.string y.name.data.toList) from trivial), nix_append, if_pos h0, if_pos (by simp [hy])]
  · have hne : Lit.string s.data.toList ≠ Lit.string y.name.data.toList := fun q => by
      simp only [Lit.string.injEq] at q
      exact e (ba_ext q.symm)
    have hb : ¬ (y.op == 2 && y.name.data.toList == s.data.toList) = true := fun q => by
      simp only [Bool.and_eq_true, beq_iff_eq] at q
      exact e (ba_ext q.2)
    rw [Maps.atKey_put_other hne, h s hs, nix_append]
    by_cases hz : nix l s = 0
    · rw [if_pos hz, if_neg hb, hz]
    · rw [if_neg hz]
theorem NamesOk.other {D : DataW Unit} {l : List Nd} (h : NamesOk D l) {y : Nd} (hy : y.op ≠ 2) : NamesOk D (l ++ [y]) := by
  intro s hs
  have hb : ¬ (y.op == 2 && y.name.data.toList == s.data.toList) = true := fun q => by
    simp only [Bool.and_eq_true, beq_iff_eq] at q
    exact hy q.1
  rw [h s hs, nix_append]
  by_cases hz : nix l s = 0
  · rw [if_pos hz, if_neg hb, hz]
  · rw [if_neg hz]
abbrev gmap (k : TypeId) (w : World) (b n : Nat) (D : DataW Unit) : Prop := w.ownsMap Tryz.prog k (plainElem Tryz.prog 3) b n D
def gcells (l : List Nd) : List Value := l.flatMap Nd.cells
/-- A variable has nothing but its name and sort. -/
def VarOk (y : Nd) : Prop := y.op = 2 → y.a = 0 ∧ y.b = 0 ∧ y.c = 0 ∧ y.p = 0 ∧ y.q = 0 ∧ y.w = 0 ∧ y.lo = 0 ∧ y.hi = 0
structure GI (w : World) (B g : Nat) (G : Gr) (vn : Value) (bi bn : Nat) : Prop where
  cells : Cells w g 124 [.int .i64 (G.most : Int), vn, .map (some bi), .map (some bn)]
  base : B ≤ g
  most : G.most ≤ 4096
  len : G.l.length ≤ G.most
  row : w.ownsRow B 112 11 vn G.l.length (gcells G.l)
  wf : ∀ x ∈ G.l, x.Wf
  vars : ∀ x ∈ G.l, VarOk x
  ids : ∃ D, gmap 112 w bi G.l.length D ∧ IdsOk D G.l
  names : ∃ D, gmap 9 w bn G.l.length D ∧ NamesOk D G.l
  ibase : B ≤ bi
  nbase : B ≤ bn
  ne : bi ≠ bn
theorem gcells_append (a b : List Nd) : gcells (a ++ b) = gcells a ++ gcells b := by unfold gcells; simp
theorem gcells_get {l : List Nd} {i : Nat} {x : Nd} (h : l[i]? = some x) (q : Nat) (hq : q < 11) : (gcells l)[i * 11 + q]? = x.cells[q]? := by
  induction l generalizing i with
  | nil => simp at h
  | cons y r ih =>
    unfold gcells at ih ⊢
    rw [List.flatMap_cons]
    cases i with
    | zero =>
      simp at h; subst h
      rw [Nat.zero_mul, Nat.zero_add, List.getElem?_append_left (by rw [Nd.cells_len]; exact hq)]
    | succ i =>
      rw [List.getElem?_append_right (by rw [Nd.cells_len]; omega), Nd.cells_len, show (i + 1) * 11 + q - 11 = i * 11 + q by omega]
      exact ih (by simpa using h)
section
variable {w w' : World} {B g bi bn : Nat} {G : Gr} {vn : Value}
theorem GI.form (h : GI w B g G vn bi bn) : ∃ A c, vn = .slice A G.l.length c ∧ G.l.length ≤ c ∧ c ≤ 9223372036854775807 := by
  rcases h.row.2 with ⟨e, h0⟩ | ⟨g', cap, cur, e, _, _, h1, h2, _⟩
  · exact ⟨none, 0, by rw [e, h0], by omega, by omega⟩
  · exact ⟨_, _, e, h1, by unfold maxLen at h2; omega⟩
/-- What a graph's steps may write. -/
def GZ (B g bi bn : Nat) (w : World) (k : Nat) : Prop := k = g ∨ k = bi ∨ k = bn ∨ (B ≤ k ∧ ∃ l, Cells w k 112 l)
def KG (B g bi bn : Nat) (w w' : World) : Prop := Mod (GZ B g bi bn w) w w'
/-- The row's own block. -/
def OwnB (g : Nat) (w : World) (k : Nat) : Prop := ∃ v, w.cell? ⟨g, 1, none⟩ = some v ∧ v.ownBlock = some k
def GY (g bi bn : Nat) (w : World) (k : Nat) : Prop := k = g ∨ k = bi ∨ k = bn ∨ OwnB g w k
/-- No other block is written. -/
structure NK (g bi bn : Nat) (w w' : World) : Prop where
  keep : ∀ k, k < w.heap.size → ¬ GY g bi bn w k → w'.heap[k]? = w.heap[k]?
  own : ∀ k, k < w.heap.size → OwnB g w' k → OwnB g w k
theorem OwnB.same {g k : Nat} {w w' : World} (h : w'.heap[g]? = w.heap[g]?) (ho : OwnB g w' k) : OwnB g w k := by
  obtain ⟨v, h1, h2⟩ := ho
  exact ⟨v, by rw [← h1]; exact (World.cell?_of_block h).symm, h2⟩
theorem NK.of_below {g bi bn : Nat} {w w' : World} (hg : g < w.heap.size) (h : Below w.heap.size w w') : NK g bi bn w w' :=
  ⟨fun k hk _ => h.block k hk, fun _ _ ho => ho.same (h.block g hg)⟩
theorem NK.of_mod {g bi bn : Nat} {w w' : World} {v1 : Value} (hk : Mod (GY g bi bn w) w w') (h1 : w'.cell? ⟨g, 1, none⟩ = some v1) (h2 : ∀ k, k < w.heap.size → v1.ownBlock = some k → OwnB g w k) : NK g bi bn w w' :=
  ⟨fun k hl hn => hk.keep k hl hn, fun k hl ho => by
    obtain ⟨v, e1, e2⟩ := ho
    rw [h1] at e1; cases e1
    exact h2 k hl e2⟩
theorem GI.gy_gz (h : GI w B g G vn bi bn) : ∀ k, GY g bi bn w k → GZ B g bi bn w k := by
  rintro k (q | q | q | ⟨v, q1, q2⟩)
  · exact .inl q
  · exact .inr (.inl q)
  · exact .inr (.inr (.inl q))
  · have := h.cells.cell 1 _ rfl
    rw [this] at q1; cases q1
    exact .inr (.inr (.inr ⟨own_base_le h.row k q2, own_cells h.row k q2⟩))
theorem GI.own_gy (h : GI w B g G vn bi bn) : ∀ k, vn.ownBlock = some k → OwnB g w k := fun k hk => ⟨vn, h.cells.cell 1 _ rfl, hk⟩
theorem KG.refl (w : World) : KG B g bi bn w w := Mod.refl _ _
theorem GZ.back {w w' : World} (h : KG B g bi bn w w') {k : Nat} (hk : k < w.heap.size) (hz : GZ B g bi bn w' k) : GZ B g bi bn w k := by
  rcases hz with hz | hz | hz | ⟨hb, l, hl⟩
  · exact .inl hz
  · exact .inr (.inl hz)
  · exact .inr (.inr (.inl hz))
  · by_cases q : GZ B g bi bn w k
    · exact q
    · exact .inr (.inr (.inr ⟨hb, l, by unfold Cells at hl ⊢; rw [← h.keep k hk q]; exact hl⟩))
theorem KG.trans {w1 w2 w3 : World} (h : KG B g bi bn w1 w2) (k : KG B g bi bn w2 w3) : KG B g bi bn w1 w3 :=
  ⟨k.os.trans h.os, k.tape.trans h.tape, k.output.trans h.output, Nat.le_trans h.size k.size, fun i hi hs => (k.keep i (Nat.lt_of_lt_of_le hi h.size) (fun q => hs (GZ.back h hi q))).trans (h.keep i hi hs)⟩
theorem KG.of_below {w w' : World} (h : Below w.heap.size w w') : KG B g bi bn w w' := Mod.of_below h
theorem KG.step {w1 w2 w3 : World} (h : KG B g bi bn w1 w2) (k : Below w2.heap.size w2 w3) : KG B g bi bn w1 w3 := h.trans (KG.of_below k)
/-- What stays. -/
def NZ (B g bi bn : Nat) (w : World) (k : Nat) : Prop := k < w.heap.size ∧ ¬ GZ B g bi bn w k
theorem NZ.heap {w w' : World} {k : Nat} (h : NZ B g bi bn w k) (m : KG B g bi bn w w') : w'.heap[k]? = w.heap[k]? := m.keep k h.1 h.2
theorem NZ.next {w w' : World} {k : Nat} (h : NZ B g bi bn w k) (m : KG B g bi bn w w') : NZ B g bi bn w' k := ⟨Nat.lt_of_lt_of_le h.1 m.size, fun q => h.2 (GZ.back m h.1 q)⟩
theorem NZ.cells {w : World} {k t : Nat} {l : List Value} (h : Cells w k t l) (ht : t ≠ 112) (h1 : k ≠ g) (h2 : k ≠ bi) (h3 : k ≠ bn) : NZ B g bi bn w k := by
  refine ⟨h.lt, ?_⟩
  rintro (q | q | q | ⟨_, l', hl'⟩)
  · exact h1 q
  · exact h2 q
  · exact h3 q
  · exact ht (h.ty hl').1
theorem gmap_heap {k : TypeId} {b n : Nat} {D : DataW Unit} (h : gmap k w b n D) (hb : w'.heap[b]? = w.heap[b]?) : gmap k w' b n D := by
  obtain ⟨es, clock, h1, h2⟩ := h
  exact ⟨es, clock, hb.trans h1, h2⟩
theorem GI.row_gz (h : GI w B g G vn bi bn) : ∀ k, vn.ownBlock = some k → GZ B g bi bn w k := fun k hk => .inr (.inr (.inr ⟨own_base_le h.row k hk, own_cells h.row k hk⟩))
/-- Nothing of the graph's is written. -/
theorem GI.keep (h : GI w B g G vn bi bn) {S : Nat → Prop} (hm : Mod S w w') (hS : ∀ k, k < w.heap.size → S k → ¬ GZ B g bi bn w k) : GI w' B g G vn bi bn := by
  obtain ⟨D, hD, hI⟩ := h.ids
  obtain ⟨D', hD', hN⟩ := h.names
  refine ⟨h.cells.keep hm (fun q => hS g h.cells.lt q (.inl rfl)), h.base, h.most, h.len, own_keep h.row hm (fun k hk q => hS k (own_lt_size h.row k hk) q (h.row_gz k hk)), h.wf, h.vars, ⟨D, gmap_heap hD (hm.keep bi hD.lt (fun q => hS bi hD.lt q (.inr (.inl rfl)))), hI⟩, ⟨D', gmap_heap hD' (hm.keep bn hD'.lt (fun q => hS bn hD'.lt q (.inr (.inr (.inl rfl))))), hN⟩, h.ibase, h.nbase, h.ne⟩
theorem GI.below (h : GI w B g G vn bi bn) (hb : Below w.heap.size w w') : GI w' B g G vn bi bn :=
  h.keep (S := fun _ => False) ⟨hb.os, hb.tape, hb.output, hb.size, fun k hk _ => hb.block k hk⟩ (fun _ _ q => q.elim)
theorem GI.drew (h : GI w B g G vn bi bn) : GI w.drew B g G vn bi bn := h.keep (S := fun _ => False) ((Mod.refl _ _).drew) (fun _ _ q => q.elim)
theorem GI.node (h : GI w B g G vn bi bn) {i : Nat} {x : Nd} (hx : G.l[i]? = some x) {A : Option Addr} {c : Nat} (hv : vn = .slice A G.l.length c) : ∃ b, A = some ⟨b, 0, none⟩ ∧ ∀ q u, x.cells[q]? = some u → w.cell? ⟨b, i * 11 + q, none⟩ = some u := by
  have hi := (List.getElem?_eq_some_iff.1 hx).1
  rcases h.row.2 with ⟨e, h0⟩ | ⟨b, cap, cur, e, _⟩
  · omega
  · rw [hv] at e
    simp only [Value.slice.injEq] at e
    obtain ⟨rfl, _, rfl⟩ := e
    refine ⟨b, rfl, fun q u hu => ?_⟩
    have hq : q < 11 := by
      have := (List.getElem?_eq_some_iff.1 hu).1
      rwa [Nd.cells_len] at this
    have hrow := h.row
    rw [hv] at hrow
    have := hrow.cells (g := b) rfl (i * 11 + q) u (by rw [gcells_get hx q hq]; exact hu)
    rw [add0] at this
    exact this
end
end Go.Proofs.YthhnhbpmpdminaaGreatDoor
/-
term: Node and Var. Conditions: the graph in memory.
-/
namespace Go.Proofs.YthhnhbpmpdminaaGreatDoor
set_option maxRecDepth 4096
set_option maxHeartbeats 8000000
set_option linter.unusedSimpArgs false
set_option linter.unusedVariables false
set_option linter.unnecessarySimpa false
open Go.RowKit Go.Proofs.YthhnhbpmpdminaaGreatDoorW.PrintWords Go.Maps
def nodeAt (l : List Nd) (id : Int) : Option Nd := if 1 ≤ id ∧ id ≤ (l.length : Int) then l[(id - 1).toNat]? else none
def nodeV (o : Option Nd) : Value := match o with
  | some x => .tuple #[.agg x.cells.toArray, .bool true]
  | none => .tuple #[.agg nd0.cells.toArray, .bool false]
theorem Node_any (B g bi bn : Nat) (G : Gr) (vn : Value) (id : Int) (w : World) (h : GI w B g G vn bi bn) (hid : i64ok id) :
    Calls Tryz.prog 63 #[.pointer (some ⟨g, 0, none⟩), .int .i64 id] w fun e w' => e = .returned (nodeV (nodeAt G.l id)) ∧ Below w.heap.size w w' := by
  obtain ⟨A, c, rfl, hc1, hc2⟩ := h.form
  have hb := (Below.refl _ w).alloc (Nat.le_refl _) (.cells #[.int .i64 0, .int .i64 0, .int .i64 0, .int .i64 0, .int .i64 0, .int .i64 0, .int .i64 0, .int .i64 0, .int .u64 0, .int .u64 0, .string ⟨#[]⟩] 112)
  have HG := Aside0.mk (h.below hb)
  have HC := Aside0.mk (Cells.new w 112 [.int .i64 0, .int .i64 0, .int .i64 0, .int .i64 0, .int .i64 0, .int .i64 0, .int .i64 0, .int .i64 0, .int .u64 0, .int .u64 0, .string ⟨#[]⟩])
  have HB := Aside0.mk hb
  clear hb h
  have q0 := HG.out.cells.cell 0 _ rfl
  have q1 := HG.out.cells.cell 1 _ rfl
  by_cases hr : 1 ≤ id ∧ id ≤ (G.l.length : Int)
  · obtain ⟨i, rfl⟩ : ∃ i : Nat, id = (i : Int) + 1 := ⟨(id - 1).toNat, by omega⟩
    have hi : i < G.l.length := by omega
    have HV : Aside0 (nodeAt G.l ((i : Int) + 1) = some G.l[i]) := ⟨by
      unfold nodeAt
      rw [if_pos hr, show ((i : Int) + 1 - 1).toNat = i by omega, List.getElem?_eq_getElem hi]⟩
    rw [HV.out]
    obtain ⟨x, hx⟩ : ∃ x, G.l[i] = x := ⟨_, rfl⟩
    rw [hx]
    obtain ⟨b, rfl, hcell⟩ := HG.out.node (i := i) (x := x) (by rw [List.getElem?_eq_getElem hi, hx]) rfl
    have HX := Aside0.mk hcell
    clear hcell hx HV
    have hw : wrap64 ((i : Int) + 1 - 1) = (i : Int) := by unfold wrap64; omega
    have h1 : ¬ (i : Int) + 1 < 1 := by omega
    have h2 : ¬ (G.l.length : Int) < (i : Int) + 1 := by omega
    have h3 : (i : Int) < (G.l.length : Int) := by omega
    have x0 := HX.out 0 _ rfl
    have x1 := HX.out 1 _ rfl
    have x2 := HX.out 2 _ rfl
    have x3 := HX.out 3 _ rfl
    have x4 := HX.out 4 _ rfl
    have x5 := HX.out 5 _ rfl
    have x6 := HX.out 6 _ rfl
    have x7 := HX.out 7 _ rfl
    have x8 := HX.out 8 _ rfl
    have x9 := HX.out 9 _ rfl
    have x10 := HX.out 10 _ rfl
    simp only [Nat.add_zero] at x0
    go_enter Tryz.func63, Tryz.ntmps63
    go_wp2_with fail
    exact bodyPost_ret (results_cell_tmp rfl _ _ w.heap.size 112 x.cells.toArray (0, 0) _ (.bool true) rfl rfl (Cells.new w _ x.cells) Tryz.underlying112 rfl (by kernel_rfl)) rfl ⟨rfl, (Below.refl _ w).alloc (Nat.le_refl _) _⟩
  · have HV : Aside0 (nodeAt G.l id = none) := ⟨by unfold nodeAt; rw [if_neg hr]⟩
    rw [HV.out]
    by_cases h1 : id < 1
    · go_enter Tryz.func63, Tryz.ntmps63
      go_wp2_with fail
      exact bodyPost_ret (results_cell_tmp rfl _ _ w.heap.size 112 nd0.cells.toArray (0, 0) _ (.bool false) rfl rfl (Cells.new w _ nd0.cells) Tryz.underlying112 rfl (by kernel_rfl)) rfl ⟨rfl, (Below.refl _ w).alloc (Nat.le_refl _) _⟩
    · have h2 : (G.l.length : Int) < id := by omega
      go_enter Tryz.func63, Tryz.ntmps63
      go_wp2_with fail
      exact bodyPost_ret (results_cell_tmp rfl _ _ w.heap.size 112 nd0.cells.toArray (0, 0) _ (.bool false) rfl rfl (Cells.new w _ nd0.cells) Tryz.underlying112 rfl (by kernel_rfl)) rfl ⟨rfl, (Below.refl _ w).alloc (Nat.le_refl _) _⟩
theorem Tryz.zeroInt (w : World) : (zeroValue 3).run Tryz.prog w = .ok (.int .i64 0) w := by kernel_rfl
theorem Var_any (B g bi bn : Nat) (G : Gr) (vn : Value) (s : ByteArray) (w : World) (h : GI w B g G vn bi bn) (hs : s.size ≤ maxLen) :
    Calls Tryz.prog 149 #[.pointer (some ⟨g, 0, none⟩), .string s] w fun e w' => (∃ b : Bool, e = .returned (.tuple #[.int .i64 (nix G.l s : Int), .bool b])) ∧ w' = w := by
  obtain ⟨D, hD, hN⟩ := h.names
  have q0 := h.cells.cell 0 _ rfl
  have q3 := h.cells.cell 3 _ rfl
  have HN := Aside0.mk (hN s hs)
  have HD := Aside0.mk hD
  have HH := Aside0.mk h
  have hkey := WideMaps.keyOf_string_mk (P := Tryz.prog) Tryz.underlying9 hs
  clear h hD hN
  go_enter Tryz.func149, Tryz.ntmps149
  go_wp2_with (at_lookup; refine wpList_lookup_own_ok_int _ rfl _ _ 121 rfl 9 3 .i64 strLaw Tryz.underlying121 Tryz.underlying3 (Tryz.zeroInt _) bn G.l.length D rfl HD.out _ _ rfl hkey ?_; intro c hat hwc)
  have hc : c = (nix G.l s : Int) := by
    have := hat.symm.trans HN.out
    simpa using this
  subst hc
  go_wp2_with fail
  go_returns
  exact ⟨⟨_, rfl⟩, rfl⟩
end Go.Proofs.YthhnhbpmpdminaaGreatDoor
/-
term: formed. Conditions: the graph in memory.
-/
namespace Go.Proofs.YthhnhbpmpdminaaGreatDoor
set_option maxRecDepth 4096
set_option maxHeartbeats 8000000
set_option linter.unusedSimpArgs false
set_option linter.unusedVariables false
set_option linter.unnecessarySimpa false
open Go.RowKit Go.Proofs.YthhnhbpmpdminaaGreatDoorW.PrintWords Go.Maps
theorem okOp_cases {n : Nat} {ar i id : Int} (b : Bool) (h : okOp n ar i id = b) : (b = true ∧ i < ar ∧ 1 ≤ id ∧ id ≤ (n : Int)) ∨ (b = true ∧ ar ≤ i ∧ id = 0) ∨ (b = false ∧ i < ar ∧ id < 1) ∨ (b = false ∧ i < ar ∧ 1 ≤ id ∧ (n : Int) < id) ∨ (b = false ∧ ar ≤ i ∧ id ≠ 0) := by
  unfold okOp at h
  subst h
  split
  · by_cases h1 : 1 ≤ id
    · by_cases h2 : id ≤ (n : Int)
      · left; simp [h1, h2]; assumption
      · right; right; right; left; simp [h1, h2]; omega
    · right; right; left; simp [h1]; omega
  · by_cases h1 : id = 0
    · right; left; simp [h1]; omega
    · right; right; right; right; simp [h1]; omega
theorem idx3_0 (a b c : Int) (w : World) : (Instr.index 231 (.agg #[.int .i64 a, .int .i64 b, .int .i64 c]) (.int .i64 0)).run Tryz.prog w = .ok (.int .i64 a) w := by kernel_rfl
theorem idx3_1 (a b c : Int) (w : World) : (Instr.index 231 (.agg #[.int .i64 a, .int .i64 b, .int .i64 c]) (.int .i64 1)).run Tryz.prog w = .ok (.int .i64 b) w := by kernel_rfl
theorem idx3_2 (a b c : Int) (w : World) : (Instr.index 231 (.agg #[.int .i64 a, .int .i64 b, .int .i64 c]) (.int .i64 2)).run Tryz.prog w = .ok (.int .i64 c) w := by kernel_rfl
theorem isEmpty_size (s : ByteArray) : s.toList.isEmpty = (s.size == 0) := by
  rw [ByteArray.toList_eq, Bool.eq_iff_iff, List.isEmpty_iff_length_eq_zero]
  simp
def opd (x : Nd) (i : Nat) : Int := match i with
  | 0 => x.a
  | 1 => x.b
  | _ => x.c
set_option maxHeartbeats 20000000 in
theorem formed_any (B g bi bn : Nat) (G : Gr) (vn : Value) (x : Nd) (w : World) (h : GI w B g G vn bi bn) :
    Calls Tryz.prog 99 #[.pointer (some ⟨g, 0, none⟩), .agg x.cells.toArray] w fun e w' => e = .returned (.bool (formedV G.l.length x)) ∧ Below w.heap.size w w' := by
  obtain ⟨A, c, rfl, hc1, hc2⟩ := h.form
  have hb := (Below.refl _ w).alloc (Nat.le_refl _) (.cells x.cells.toArray 112)
  have HG := Aside0.mk (h.below hb)
  have HC := Aside0.mk (Cells.new w 112 x.cells)
  have HB := Aside0.mk hb
  clear hb h
  obtain ⟨ar, har⟩ : ∃ n, arityV x.op = n := ⟨_, rfl⟩
  obtain ⟨R, hR⟩ : ∃ b, formedV G.l.length x = b := ⟨_, rfl⟩
  rw [hR]
  unfold formedV at hR
  rw [har] at hR
  have HA := Aside0.mk har
  have HR := Aside0.mk hR
  clear har hR
  have e0 : w.alloc (.cells x.cells.toArray 112) = w.alloc (.cells #[.int .i64 x.op, .int .i64 x.sort, .int .i64 x.a, .int .i64 x.b, .int .i64 x.c, .int .i64 x.p, .int .i64 x.q, .int .i64 x.w, .int .u64 x.lo, .int .u64 x.hi, .string x.name] 112) := rfl
  obtain ⟨w0, hw0⟩ : ∃ w0, w.alloc (.cells x.cells.toArray 112) = w0 := ⟨_, rfl⟩
  rw [hw0] at HG HC HB e0
  have q0 := HG.out.cells.cell 0 _ rfl
  have q1 := HG.out.cells.cell 1 _ rfl
  have x0 := HC.out.cell 0 _ rfl
  have x2 := HC.out.cell 2 _ rfl
  have x3 := HC.out.cell 3 _ rfl
  have x4 := HC.out.cell 4 _ rfl
  have x7 := HC.out.cell 7 _ rfl
  have x8 := HC.out.cell 8 _ rfl
  have x9 := HC.out.cell 9 _ rfl
  have x10 := HC.out.cell 10 _ rfl
  unfold Nd.cells
  go_enter Tryz.func99, Tryz.ntmps99
  go_upto_region 1 with (fail)
  rw [← e0]
  clear e0 hw0
  go_wp2_with fail
  refine (Arity_any _ _).mono ?_
  rintro e w1 ⟨rfl, rfl⟩
  rw [HA.out]
  go_wp2_with fail
  go_loopw [18] (fun v wr => ∃ i : Nat, i ≤ 3 ∧ v = .int .i64 (i : Int) ∧ Aside0 (∀ j, j < i → okOp G.l.length ar (j : Int) (opd x j) = true) ∧ wr = w1) (fun v _ => 3 - (intOf v).toNat)
  case atStart => exact ⟨0, by omega, rfl, ⟨fun j hj => absurd hj (by omega)⟩, rfl⟩
  case round =>
    obtain ⟨i, hi, rfl, HO, rfl⟩ := hrel
    by_cases hlt : i < 3
    · rcases (by omega : i = 0 ∨ i = 1 ∨ i = 2) with rfl | rfl | rfl
      · have i0 := fun a b c => idx3_0 a b c wr
        obtain ⟨b, hb⟩ : ∃ b, okOp G.l.length ar 0 x.a = b := ⟨_, rfl⟩
        have HK := Aside0.mk hb
        rcases okOp_cases b hb with ⟨rfl, c1, c2, c3⟩ | ⟨rfl, c1, c2⟩ | ⟨rfl, c1, c2⟩ | ⟨rfl, c1, c2, c3⟩ | ⟨rfl, c1, c2⟩
        all_goals (
          clear hb
          go_wp2_with fail)
        all_goals first
          | (go_returns
             refine ⟨?_, HB.out⟩
             have hR := HR.out
             rw [HK.out] at hR
             simp only [Bool.and_false, Bool.false_and] at hR
             rw [← hR]; rfl)
          | (refine ⟨⟨1, by omega, rfl, ⟨fun j hj => ?_⟩, trivial⟩, by simp only [intOf]; omega⟩
             by_cases e : j = 0
             · subst e; exact HK.out
             · exact HO.out j (by omega))
          | (refine ⟨⟨_, _, _, _, ⟨1, by omega, rfl, ⟨fun j hj => ?_⟩⟩, rfl, rfl, rfl, rfl⟩, by simp only [intOf]; omega⟩
             by_cases e : j = 0
             · subst e; exact HK.out
             · exact HO.out j (by omega))
      · have i0 := fun a b c => idx3_1 a b c wr
        obtain ⟨b, hb⟩ : ∃ b, okOp G.l.length ar 1 x.b = b := ⟨_, rfl⟩
        have HK := Aside0.mk hb
        rcases okOp_cases b hb with ⟨rfl, c1, c2, c3⟩ | ⟨rfl, c1, c2⟩ | ⟨rfl, c1, c2⟩ | ⟨rfl, c1, c2, c3⟩ | ⟨rfl, c1, c2⟩
        all_goals (
          clear hb
          go_wp2_with fail)
        all_goals first
          | (go_returns
             refine ⟨?_, HB.out⟩
             have hR := HR.out
             rw [HK.out] at hR
             simp only [Bool.and_false, Bool.false_and] at hR
             rw [← hR]; rfl)
          | (refine ⟨⟨2, by omega, rfl, ⟨fun j hj => ?_⟩, trivial⟩, by simp only [intOf]; omega⟩
             by_cases e : j = 1
             · subst e; exact HK.out
             · exact HO.out j (by omega))
          | (refine ⟨⟨_, _, _, _, ⟨2, by omega, rfl, ⟨fun j hj => ?_⟩⟩, rfl, rfl, rfl, rfl⟩, by simp only [intOf]; omega⟩
             by_cases e : j = 1
             · subst e; exact HK.out
             · exact HO.out j (by omega))
      · have i0 := fun a b c => idx3_2 a b c wr
        obtain ⟨b, hb⟩ : ∃ b, okOp G.l.length ar 2 x.c = b := ⟨_, rfl⟩
        have HK := Aside0.mk hb
        rcases okOp_cases b hb with ⟨rfl, c1, c2, c3⟩ | ⟨rfl, c1, c2⟩ | ⟨rfl, c1, c2⟩ | ⟨rfl, c1, c2, c3⟩ | ⟨rfl, c1, c2⟩
        all_goals (
          clear hb
          go_wp2_with fail)
        all_goals first
          | (go_returns
             refine ⟨?_, HB.out⟩
             have hR := HR.out
             rw [HK.out] at hR
             simp only [Bool.and_false, Bool.false_and] at hR
             rw [← hR]; rfl)
          | (refine ⟨⟨3, by omega, rfl, ⟨fun j hj => ?_⟩, trivial⟩, by simp only [intOf]; omega⟩
             by_cases e : j = 2
             · subst e; exact HK.out
             · exact HO.out j (by omega))
          | (refine ⟨⟨_, _, _, _, ⟨3, by omega, rfl, ⟨fun j hj => ?_⟩⟩, rfl, rfl, rfl, rfl⟩, by simp only [intOf]; omega⟩
             by_cases e : j = 2
             · subst e; exact HK.out
             · exact HO.out j (by omega))
    · obtain rfl : i = 3 := by omega
      have o0 := HO.out 0 (by omega)
      have o1 := HO.out 1 (by omega)
      have o2 := HO.out 2 (by omega)
      have hR := HR.out
      rw [show okOp G.l.length ar 0 x.a = true from o0, show okOp G.l.length ar 1 x.b = true from o1, show okOp G.l.length ar 2 x.c = true from o2] at hR
      simp only [Bool.true_and] at hR
      have HR2 := Aside0.mk hR
      clear hR o0 o1 o2
      go_wp2_with fail
      all_goals (
        go_returns
        refine ⟨?_, HB.out⟩
        rw [← HR2.out]
        show Ending.returned (.bool _) = .returned (.bool _)
        congr 2)
      all_goals (try simp only [isEmpty_size]); all_goals first | (simp [*]; done) | (simp; intro h; omega)
end Go.Proofs.YthhnhbpmpdminaaGreatDoor
