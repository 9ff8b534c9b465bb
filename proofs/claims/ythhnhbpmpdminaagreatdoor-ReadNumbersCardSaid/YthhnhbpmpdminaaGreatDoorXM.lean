/-
Several texts as one: Rim Rco Rfl Rib.
-/
import Derived.Test.YthhnhbpmpdminaaGreatDoorGmk
import Derived.Test.YthhnhbpmpdminaaGreatDoorXD
import Derived.Test.YthhnhbpmpdminaaGreatDoorRpu
/-
The reader in memory: its scope, what is bound, its worker, and what a step leaves of them. Conditions: none.
-/
namespace Go.Proofs.YthhnhbpmpdminaaGreatDoor
set_option maxRecDepth 4096
set_option maxHeartbeats 8000000
set_option linter.unusedSimpArgs false
set_option linter.unusedVariables false
set_option linter.unnecessarySimpa false
open Go.RowKit Go.Proofs.YthhnhbpmpdminaaGreatDoorW.PrintWords Go.Maps
structure Zr where
  B : Nat
  g : Nat
  bi : Nat
  bn : Nat
  sb : Nat
  wb : Nat
  ab : Nat
section
variable {z : Zr} {w w' w1 w2 w3 : World}
/-- What a step of the worker may write. -/
def RZ (z : Zr) (w : World) (k : Nat) : Prop := GZ z.B z.g z.bi z.bn w k ∨ k = z.wb
/-- All blocks but the reader's own, and the row's own. -/
def RY (z : Zr) (w : World) (k : Nat) : Prop := GY z.g z.bi z.bn w k ∨ k = z.wb
structure NY (z : Zr) (w w' : World) : Prop where
  keep : ∀ k, k < w.heap.size → ¬ RY z w k → w'.heap[k]? = w.heap[k]?
  own : ∀ k, k < w.heap.size → OwnB z.g w' k → OwnB z.g w k
structure KR (z : Zr) (w w' : World) : Prop where
  mod : Mod (RZ z w) w w'
  ny : z.g < w.heap.size → NY z w w'
theorem KR.size (h : KR z w w') : w.heap.size ≤ w'.heap.size := h.mod.size
theorem KR.refl (w : World) : KR z w w := ⟨Mod.refl _ _, fun _ => ⟨fun _ _ _ => rfl, fun _ _ h => h⟩⟩
theorem RZ.back (h : Mod (RZ z w) w w') {k : Nat} (hk : k < w.heap.size) (hz : RZ z w' k) : RZ z w k := by
  rcases hz with (hz | hz | hz | ⟨hb, l, hl⟩) | hz
  · exact .inl (.inl hz)
  · exact .inl (.inr (.inl hz))
  · exact .inl (.inr (.inr (.inl hz)))
  · by_cases q : RZ z w k
    · exact q
    · exact .inl (.inr (.inr (.inr ⟨hb, l, by unfold Cells at hl ⊢; rw [← h.keep k hk q]; exact hl⟩)))
  · exact .inr hz
theorem RY.back (h : NY z w w') {k : Nat} (hk : k < w.heap.size) (hz : RY z w' k) : RY z w k := by
  rcases hz with (hz | hz | hz | hz) | hz
  · exact .inl (.inl hz)
  · exact .inl (.inr (.inl hz))
  · exact .inl (.inr (.inr (.inl hz)))
  · exact .inl (.inr (.inr (.inr (h.own k hk hz))))
  · exact .inr hz
theorem KR.trans (h : KR z w1 w2) (k : KR z w2 w3) : KR z w1 w3 :=
  ⟨⟨k.mod.os.trans h.mod.os, k.mod.tape.trans h.mod.tape, k.mod.output.trans h.mod.output, Nat.le_trans h.size k.size, fun i hi hs => (k.mod.keep i (Nat.lt_of_lt_of_le hi h.size) (fun q => hs (RZ.back h.mod hi q))).trans (h.mod.keep i hi hs)⟩,
   fun hg => ⟨fun i hi hs => ((k.ny (Nat.lt_of_lt_of_le hg h.size)).keep i (Nat.lt_of_lt_of_le hi h.size) (fun q => hs (RY.back (h.ny hg) hi q))).trans ((h.ny hg).keep i hi hs),
     fun i hi ho => (h.ny hg).own i hi ((k.ny (Nat.lt_of_lt_of_le hg h.size)).own i (Nat.lt_of_lt_of_le hi h.size) ho)⟩⟩
theorem KR.of_below (h : Below w.heap.size w w') : KR z w w' := ⟨Mod.of_below h, fun hg => ⟨fun k hk _ => h.block k hk, fun _ _ ho => ho.same (h.block _ hg)⟩⟩
theorem KR.step (h : KR z w1 w2) (k : Below w2.heap.size w2 w3) : KR z w1 w3 := h.trans (KR.of_below k)
theorem KR.of_kg (h : KG z.B z.g z.bi z.bn w w' ∧ NK z.g z.bi z.bn w w') : KR z w w' := ⟨Mod.mono h.1 fun _ _ q => .inl q, fun _ => ⟨fun k hk hn => h.2.keep k hk (fun q => hn (.inl q)), h.2.own⟩⟩
theorem KR.drew (h : KR z w w') : KR z w w'.drew := h.trans (KR.of_below ((Below.refl _ w').drew))
/-- What stays. -/
def NR (z : Zr) (w : World) (k : Nat) : Prop := k < w.heap.size ∧ ¬ RZ z w k
theorem NR.heap {k : Nat} (h : NR z w k) (m : KR z w w') : w'.heap[k]? = w.heap[k]? := m.mod.keep k h.1 h.2
theorem NR.next {k : Nat} (h : NR z w k) (m : KR z w w') : NR z w' k := ⟨Nat.lt_of_lt_of_le h.1 m.size, fun q => h.2 (RZ.back m.mod h.1 q)⟩
theorem NR.cell {a : Addr} {u : Value} (h : NR z w a.block) (m : KR z w w') (hc : w.cell? a = some u) : w'.cell? a = some u := by
  rw [World.cell?_of_block (w := w) (h.heap m)]; exact hc
theorem NR.tree {x : Sx} {cs : List Value} (m : KR z w w') (h : RT w (NR z w) x cs) : RT w' (NR z w') x cs := RT_move (fun k hk => hk.heap m) (fun k hk => hk.next m) x cs h
theorem NR.trees {l : List Sx} {A : Option Addr} {j : Nat} (m : KR z w w') (h : RL w (NR z w) l A j) : RL w' (NR z w') l A j := RL_move (fun k hk => hk.heap m) (fun k hk => hk.next m) l A j h
theorem NR.cells {k t : Nat} {l : List Value} (h : Cells w k t l) (hn : NR z w k) (m : KR z w w') : Cells w' k t l := (hn.heap m).trans h
/-- A new block of cells stays. -/
theorem NR.new {k t : Nat} {l : List Value} (h : Cells w k t l) (ht : t ≠ 112) (h1 : k ≠ z.g) (h2 : k ≠ z.bi) (h3 : k ≠ z.bn) (h4 : k ≠ z.wb) : NR z w k := by
  refine ⟨h.lt, ?_⟩
  rintro ((q | q | q | ⟨_, l', hl'⟩) | q)
  · exact h1 q
  · exact h2 q
  · exact h3 q
  · exact ht (h.ty hl').1
  · exact h4 q
def BL (z : Zr) (w : World) : Bnd → Option Addr → Prop
  | [], p => p = none
  | q :: r, p => ∃ a up, p = some ⟨a, 0, none⟩ ∧ NR z w a ∧ q.1.size ≤ maxLen ∧ Cells w a 294 [.string q.1, .int .i64 (q.2 : Int), .pointer up] ∧ BL z w r up
theorem BL.next (m : KR z w w') : ∀ {b : Bnd} {p : Option Addr}, BL z w b p → BL z w' b p
  | [], _, h => h
  | q :: r, p, h => by
    obtain ⟨a, up, h1, h2, hs, h3, h4⟩ := h
    exact ⟨a, up, h1, h2.next m, hs, NR.cells h3 h2 m, BL.next m h4⟩
def ParOk (z : Zr) (w : World) (ps : List (ByteArray × Int)) (A : Option Addr) : Prop := ∀ (j : Nat) (p : ByteArray × Int), ps[j]? = some p → p.1.size ≤ maxLen ∧ i64ok p.2 ∧
  ∃ ad, A = some ad ∧ NR z w ad.block ∧ w.cell? (ad.add (j * 2)) = some (.string p.1) ∧ w.cell? ⟨(ad.add (j * 2)).block, (ad.add (j * 2)).off + 1, none⟩ = some (.int .i64 p.2)
theorem add_block (a : Addr) (k : Nat) : (a.add k).block = a.block := by unfold Addr.add; split <;> rfl
theorem ParOk.next (m : KR z w w') {ps : List (ByteArray × Int)} {A : Option Addr} (h : ParOk z w ps A) : ParOk z w' ps A := fun j p hp => by
  obtain ⟨h1, h2, ad, h3, h4, h5, h6⟩ := h j p hp
  exact ⟨h1, h2, ad, h3, h4.next m, NR.cell (by rw [add_block]; exact h4) m h5, NR.cell (by show NR z w (ad.add (j * 2)).block; rw [add_block]; exact h4) m h6⟩
def EntOk (z : Zr) (w : World) (e : Ent) (cs : List Value) : Prop := ∃ pa pc ba bc, cs = [.string e.name, .bool e.defined, .slice pa e.params.length pc, .int .i64 e.sort, .string e.body.word, .bool e.body.list, .slice ba e.body.kids.length bc] ∧
  e.params.length ≤ pc ∧ pc ≤ 9223372036854775807 ∧ ParOk z w e.params pa ∧ RT w (NR z w) e.body [.string e.body.word, .bool e.body.list, .slice ba e.body.kids.length bc] ∧ e.name.size ≤ maxLen ∧ i64ok e.sort
theorem EntOk.next (m : KR z w w') {e : Ent} {cs : List Value} (h : EntOk z w e cs) : EntOk z w' e cs := by
  obtain ⟨pa, pc, ba, bc, h1, h2, h3, h4, h5, h6⟩ := h
  exact ⟨pa, pc, ba, bc, h1, h2, h3, h4.next m, NR.tree m h5, h6⟩
def AtOk (D : DataW Unit) (E : List Ent) : Prop := ∀ s : ByteArray, s.size ≤ maxLen → D.atKey (.string s.data.toList) (.lit (.int .i64 0)) = .lit (.int .i64 (exi s E : Int))
/-- strconv's variable holds an error, or none. -/
def ErrV (w : World) : Prop := ∃ ev, w.cell? ⟨3, 0, none⟩ = some ev ∧ (ev = .nilIface ∨ ∃ te pe, ev = .iface te pe)
structure SI (z : Zr) (w : World) (E : List Ent) (vl : Value) (cs : List Value) (defs : Int) : Prop where
  scope : Cells w z.sb 127 [.pointer (some ⟨z.g, 0, none⟩), vl, .map (some z.ab), .int .i64 defs]
  sb : NR z w z.sb
  row : w.ownsRow z.B 129 7 vl E.length cs
  rowN : ∀ k, vl.ownBlock = some k → NR z w k
  each : ∀ (i : Nat) (e : Ent), E[i]? = some e → EntOk z w e ((cs.drop (i * 7)).take 7)
  at_ : ∃ D, gmap 9 w z.ab E.length D ∧ AtOk D E
  ab : NR z w z.ab
  len : E.length ≤ 1000000
  err : ErrV w
  errN : NR z w 3
theorem SI.next {E : List Ent} {vl : Value} {cs : List Value} {defs : Int} (m : KR z w w') (h : SI z w E vl cs defs) : SI z w' E vl cs defs := by
  obtain ⟨D, hD, hA⟩ := h.at_
  exact ⟨NR.cells h.scope h.sb m, h.sb.next m, own_keep h.row m.mod (fun k hk q => (h.rowN k hk).2 q), fun k hk => (h.rowN k hk).next m, fun i e he => (h.each i e he).next m, ⟨D, gmap_heap hD (h.ab.heap m), hA⟩, h.ab.next m, h.len, (by
    obtain ⟨ev, h1, h2⟩ := h.err
    exact ⟨ev, NR.cell h.errN m h1, h2⟩), h.errN.next m⟩
structure RI (z : Zr) (w : World) (E : List Ent) (vl : Value) (cs : List Value) (defs : Int) (r : Rd) : Prop where
  gi : ∃ vn, GI w z.B z.g r.G vn z.bi z.bn
  sc : SI z w E vl cs defs
  wk : Cells w z.wb 135 [.pointer (some ⟨z.sb, 0, none⟩), .int .i64 (r.n : Int)]
  base : z.B ≤ z.wb
  dec : Dec E r.G
theorem RI.ne {E : List Ent} {vl : Value} {cs : List Value} {defs : Int} {r : Rd} (h : RI z w E vl cs defs r) : z.wb ≠ z.g ∧ z.wb ≠ z.bi ∧ z.wb ≠ z.bn := by
  obtain ⟨vn, hg⟩ := h.gi
  refine ⟨fun q => ?_, fun q => ?_, fun q => ?_⟩
  · have := h.wk; rw [q] at this; exact absurd (this.ty hg.cells).1 (by decide)
  · obtain ⟨D, ⟨es, cl, hm, _⟩, _⟩ := hg.ids
    have := h.wk; rw [q] at this; unfold Cells at this; rw [this] at hm; cases hm
  · obtain ⟨D, ⟨es, cl, hm, _⟩, _⟩ := hg.names
    have := h.wk; rw [q] at this; unfold Cells at this; rw [this] at hm; cases hm
/-- Blocks that are new. -/
theorem RI.below {E : List Ent} {vl : Value} {cs : List Value} {defs : Int} {r : Rd} (h : RI z w E vl cs defs r) (hb : Below w.heap.size w w') : RI z w' E vl cs defs r := by
  obtain ⟨vn, hg⟩ := h.gi
  exact ⟨⟨vn, hg.below hb⟩, h.sc.next (KR.of_below hb), h.wk.below hb, h.base, h.dec⟩
/-- A step of Make. -/
theorem RI.make {E : List Ent} {vl : Value} {cs : List Value} {defs : Int} {r : Rd} (h : RI z w E vl cs defs r) {G' : Gr} (hg : ∃ vn, GI w' z.B z.g G' vn z.bi z.bn) (hk : KG z.B z.g z.bi z.bn w w' ∧ NK z.g z.bi z.bn w w') (he : Ext r.G G') : RI z w' E vl cs defs { r with G := G' } :=
  ⟨hg, h.sc.next (KR.of_kg hk), h.wk.keep hk.1 (by
    rintro (q | q | q | ⟨_, l, hl⟩)
    · exact h.ne.1 q
    · exact h.ne.2.1 q
    · exact h.ne.2.2 q
    · exact absurd (h.wk.ty hl).1 (by decide)), h.base, h.dec.ext he⟩
def RPost (z : Zr) (w : World) (E : List Ent) (vl : Value) (cs : List Value) (defs : Int) (r : Rs) (e : Ending) (w' : World) : Prop :=
  e = .returned (.tuple #[.int .i64 (r.1.1 : Int), .int .i64 r.1.2]) ∧ RI z w' E vl cs defs r.2 ∧ KR z w w' ∧ Below z.B w w'
end
end Go.Proofs.YthhnhbpmpdminaaGreatDoor
/-
read.worker: constant, two, sort; place.in. Conditions: the reader in memory.
-/
namespace Go.Proofs.YthhnhbpmpdminaaGreatDoor
set_option maxRecDepth 4096
set_option maxHeartbeats 8000000
set_option linter.unusedSimpArgs false
set_option linter.unusedVariables false
set_option linter.unnecessarySimpa false
open Go.RowKit Go.Proofs.YthhnhbpmpdminaaGreatDoorW.PrintWords Go.Maps
section
variable (z : Zr) (w : World) (E : List Ent) (vl : Value) (cs : List Value) (defs : Int) (r : Rd)
theorem make_post {z : Zr} {w w1 w' : World} {E : List Ent} {vl : Value} {cs : List Value} {defs : Int} {r : Rd} {x : Nd} {e : Ending} (hk : Below w.heap.size w w1) (h : RI z w1 E vl cs defs r) (hB : z.B ≤ w.heap.size) (hp : MkPost w1 z.B z.g z.bi z.bn (mk r.G x) e w') : RPost z w E vl cs defs (makeF x r) e w' := by
  obtain ⟨h1, h2, h3, h4⟩ := hp
  exact ⟨h1, h.make h2 h3 (mk_ext _ _), (KR.of_below hk).trans (KR.of_kg h3), (hk.mono hB).trans h4⟩
theorem nlo_ok (n : Nat) : u64ok (nlo n) := by unfold u64ok nlo; omega
theorem nhi_ok {n : Nat} (h : n < 2 ^ 128) : u64ok (nhi n) := by
  unfold u64ok nhi
  have : n / 18446744073709551616 < 18446744073709551616 := Nat.div_lt_of_lt_mul (by rw [show 18446744073709551616 * 18446744073709551616 = 2 ^ 128 by decide]; exact h)
  omega
theorem constant_any (v : Bt) (hv : v.w ≤ 128) (hn : v.n < 2 ^ 128) (h : RI z w E vl cs defs r) (hB : z.B ≤ w.heap.size) :
    Calls Tryz.prog 145 #[.pointer (some ⟨z.wb, 0, none⟩), bitsV v.w v.n] w fun e w' => RPost z w E vl cs defs (constF v r) e w' := by
  have hb := (Below.refl _ w).alloc (Nat.le_refl _) (.cells #[.int .i64 (v.w : Int), .int .u64 (nlo v.n), .int .u64 (nhi v.n)] 110)
  have HI := Aside0.mk (h.below hb)
  have HB := Aside0.mk hb
  have HC := Aside0.mk (Cells.new w 110 [.int .i64 (v.w : Int), .int .u64 (nlo v.n), .int .u64 (nhi v.n)])
  have HX : Aside0 (Nd.Wf ⟨1, v.w, 0, 0, 0, 0, 0, v.w, nlo v.n, nhi v.n, ⟨#[]⟩⟩) := ⟨by
    constructor
    all_goals first
      | exact nlo_ok v.n
      | exact nhi_ok hn
      | (unfold i64ok; simp only; omega)
      | exact Nat.zero_le _⟩
  obtain ⟨⟨⟨id, er⟩, r2⟩, hrr⟩ : ∃ rr, constF v r = rr := ⟨_, rfl⟩
  rw [hrr]
  have HF : Aside0 (makeF ⟨1, v.w, 0, 0, 0, 0, 0, v.w, nlo v.n, nhi v.n, ⟨#[]⟩⟩ r = ((id, er), r2)) := ⟨hrr⟩
  clear hrr
  clear hb h
  obtain ⟨a, ha⟩ : ∃ a, nlo v.n = a := ⟨_, rfl⟩
  obtain ⟨b, hb⟩ : ∃ a, nhi v.n = a := ⟨_, rfl⟩
  have HA := Aside0.mk ha
  have HA2 := Aside0.mk hb
  unfold bitsV
  rw [ha, hb] at HI HB HC HX HF ⊢
  clear ha hb
  go_enter Tryz.func145, Tryz.ntmps145
  go_upto_region 1 with (fail)
  obtain ⟨w0, hw0⟩ : ∃ w0, w.alloc (.cells #[.int .i64 (v.w : Int), .int .u64 a, .int .u64 b] 110) = w0 := ⟨_, rfl⟩
  rw [hw0] at HI HB HC ⊢
  clear hw0
  have c0 := HI.out.wk.cell 0 _ rfl
  have s0 := HI.out.sc.scope.cell 0 _ rfl
  have b0 := HC.out.cell 0 _ rfl
  have b1 := HC.out.cell 1 _ rfl
  have b2 := HC.out.cell 2 _ rfl
  refine wp_plan [(0, 0), (0, 1), (0, 2), (0, 7), (1, 3), (0, 4), (0, 5), (1, 6), (1, 8), (1, 9), (0, 10), (3, 11), (0, 12), (0, 13), (0, 14), (0, 15)] (fun w' => w' = _) (by kernel_rfl) (by kernel_rfl) (fun _ _ d _ _ h => by cases d <;> exact h) rfl ?_
  simp only [planOps, List.filterMap_cons, List.filterMap_nil, List.getElem?_toArray, List.getElem?_cons_zero, List.getElem?_cons_succ, Option.map_some]
  repeat (first
    | (refine' plan_pu _ (by rfl) (fun w' => ?_) ?_; rotate_left 1; (focus (go_simp; try (with_reducible rfl))); (try simp only [wrapi_0, wrapi_1, wrapi_2, wrapi_3, wrapi_4, wrapi_0]); simp only [Act.put, List.setIfInBounds_toArray, List.set_cons_zero, List.set_cons_succ])
    | (refine' plan_off (by rfl) ?_; (try simp only [wrapi_0, wrapi_1, wrapi_2, wrapi_3, wrapi_4, wrapi_0]); simp only [Act.put, List.setIfInBounds_toArray, List.set_cons_zero, List.set_cons_succ])
    | (refine' plan_offL (by rfl) ?_; (try simp only [wrapi_0, wrapi_1, wrapi_2, wrapi_3, wrapi_4, wrapi_0]); simp only [Act.put, List.setIfInBounds_toArray, List.set_cons_zero, List.set_cons_succ])
    | (refine' plan_ld _ (by rfl) (fun w' hSw => ?_) ?_; rotate_left 1; (focus (subst hSw; go_simp; try (with_reducible rfl))); (try simp only [wrapi_0, wrapi_1, wrapi_2, wrapi_3, wrapi_4, wrapi_0]); simp only [Act.put, List.setIfInBounds_toArray, List.set_cons_zero, List.set_cons_succ]))
  refine plan_fi (fun K hK => ?_)
  go_simp
  obtain ⟨vn, hg⟩ := HI.out.gi
  refine (Make_any z.B z.g z.bi z.bn r.G vn ⟨1, v.w, 0, 0, 0, 0, 0, v.w, a, b, ⟨#[]⟩⟩ w0.drew hg.drew (Nat.le_trans hB HB.out.size) HX.out).mono ?_
  intro e w1 hp
  have hq := make_post HB.out.drew (HI.out.below ((Below.refl _ w0).drew)) hB hp
  clear hp hg
  rw [HF.out] at hq
  obtain ⟨rfl, hq2⟩ := hq
  have HQ := Aside0.mk hq2
  clear hq2
  refine hK.out _ _ ?_
  clear hK K
  repeat (first
    | (refine' plan_pu _ (by rfl) (fun w' => ?_) ?_; rotate_left 1; (focus (go_simp; try (with_reducible rfl))); (try simp only [wrapi_0, wrapi_1, wrapi_2, wrapi_3, wrapi_4]); simp only [Act.put, List.setIfInBounds_toArray, List.set_cons_zero, List.set_cons_succ])
    | (refine' plan_off (by rfl) ?_; (try simp only [wrapi_0, wrapi_1, wrapi_2, wrapi_3, wrapi_4]); simp only [Act.put, List.setIfInBounds_toArray, List.set_cons_zero, List.set_cons_succ])
    | (refine' plan_offL (by rfl) ?_; (try simp only [wrapi_0, wrapi_1, wrapi_2, wrapi_3, wrapi_4]); simp only [Act.put, List.setIfInBounds_toArray, List.set_cons_zero, List.set_cons_succ])
    | (refine' plan_offE (by rfl) (by first | assumption | exact (by assumption)) ?_; (try simp only [wrapi_0, wrapi_1, wrapi_2, wrapi_3, wrapi_4]); simp only [Act.put, List.setIfInBounds_toArray, List.set_cons_zero, List.set_cons_succ])
    | (refine' plan_ld _ (by rfl) (fun w' hSw => ?_) ?_; rotate_left 1; (focus ((try dsimp only at hSw); skip; go_simp; try (with_reducible rfl))); (try simp only [wrapi_0, wrapi_1, wrapi_2, wrapi_3, wrapi_4]); simp only [Act.put, List.setIfInBounds_toArray, List.set_cons_zero, List.set_cons_succ]))
  refine plan_nil ?_
  go_wp2_with fail
  go_returns
  exact ⟨rfl, HQ.out⟩
theorem two_any (op : Int) (a b : Nat) (ho : i64ok op) (ha : a ≤ 1000000) (hb : b ≤ 1000000) (h : RI z w E vl cs defs r) (hB : z.B ≤ w.heap.size) :
    Calls Tryz.prog 246 #[.pointer (some ⟨z.wb, 0, none⟩), .int .i64 op, .int .i64 (a : Int), .int .i64 (b : Int)] w fun e w' => RPost z w E vl cs defs (twoF op a b r) e w' := by
  have HI := Aside0.mk h
  have HX : Aside0 (Nd.Wf ⟨op, 0, a, b, 0, 0, 0, 0, 0, 0, ⟨#[]⟩⟩) := ⟨by
    constructor
    all_goals first
      | exact ho
      | (unfold i64ok; simp only; omega)
      | (unfold u64ok; simp only; omega)
      | exact Nat.zero_le _⟩
  have c0 := h.wk.cell 0 _ rfl
  have s0 := h.sc.scope.cell 0 _ rfl
  obtain ⟨⟨⟨id, er⟩, r2⟩, hrr⟩ : ∃ rr, twoF op a b r = rr := ⟨_, rfl⟩
  rw [hrr]
  have HF : Aside0 (makeF ⟨op, 0, a, b, 0, 0, 0, 0, 0, 0, ⟨#[]⟩⟩ r = ((id, er), r2)) := ⟨hrr⟩
  clear h hrr
  go_enter Tryz.func246, Tryz.ntmps246
  go_wp2_with fail
  obtain ⟨vn, hg⟩ := HI.out.gi
  refine (Make_any z.B z.g z.bi z.bn r.G vn ⟨op, 0, a, b, 0, 0, 0, 0, 0, 0, ⟨#[]⟩⟩ w hg hB HX.out).mono ?_
  intro e w1 hp
  have hq := make_post (Below.refl _ w) HI.out hB hp
  clear hp hg
  rw [HF.out] at hq
  obtain ⟨rfl, hq2⟩ := hq
  have HQ := Aside0.mk hq2
  clear hq2
  go_wp2_with fail
  go_returns
  exact ⟨rfl, HQ.out⟩
end
end Go.Proofs.YthhnhbpmpdminaaGreatDoor
/-
read.worker: fromLeft. Conditions: the reader in memory.
-/
namespace Go.Proofs.YthhnhbpmpdminaaGreatDoor
set_option maxRecDepth 4096
set_option maxHeartbeats 8000000
set_option linter.unusedSimpArgs false
set_option linter.unusedVariables false
set_option linter.unnecessarySimpa false
open Go.RowKit Go.Proofs.YthhnhbpmpdminaaGreatDoorW.PrintWords Go.Maps
section
variable (z : Zr) (w : World) (E : List Ent) (vl : Value) (cs : List Value) (defs : Int) (r : Rd)
def IdOk (z : Zr) (w : World) (ids : List Nat) (b : Nat) : Prop := NR z w b ∧ ∀ (j n : Nat), ids[j]? = some n → w.cell? ⟨b, j, none⟩ = some (.int .i64 (n : Int)) ∧ n ≤ 1000000
theorem IdOk.next {z : Zr} {w w' : World} {ids : List Nat} {b : Nat} (m : KR z w w') (h : IdOk z w ids b) : IdOk z w' ids b := ⟨h.1.next m, fun j n hj => ⟨NR.cell h.1 m (h.2 j n hj).1, (h.2 j n hj).2⟩⟩
theorem RI.small {z : Zr} {w : World} {E : List Ent} {vl : Value} {cs : List Value} {defs : Int} {r : Rd} (h : RI z w E vl cs defs r) : r.G.l.length ≤ 4096 := by
  obtain ⟨vn, hg⟩ := h.gi
  exact Nat.le_trans hg.len hg.most
theorem make_small {z : Zr} {w : World} {E : List Ent} {vl : Value} {cs : List Value} {defs : Int} {r r2 : Rd} {x : Nd} {id : Nat} {er : Int} (h : RI z w E vl cs defs r2) (hrr : makeF x r = ((id, er), r2)) (q : er = 0) : id ≤ 1000000 := by
  subst q
  have q2 := mk_len (G := r.G) (x := x) (congrArg (fun p : Rs => p.1.2) hrr)
  have q3 : (mk r.G x).1.1 = id := congrArg (fun p : Rs => p.1.1) hrr
  have q4 : (mk r.G x).2 = r2.G := congrArg (fun p : Rs => p.2.G) hrr
  rw [q3, q4] at q2
  have q5 := h.small
  omega
theorem two_small {z : Zr} {w : World} {E : List Ent} {vl : Value} {cs : List Value} {defs : Int} {r r2 : Rd} {op : Int} {a b id : Nat} {er : Int} (h : RI z w E vl cs defs r2) (hrr : twoF op a b r = ((id, er), r2)) (q : er = 0) : id ≤ 1000000 := make_small h hrr q
theorem fromLeft_any (op : Int) (ho : i64ok op) (a : Nat) (ids : List Nat) (b c : Nat) (hi : IdOk z w (a :: ids) b) (hl : ids.length ≤ 1000000000000) (hc : ids.length + 1 ≤ c) (hc2 : c ≤ 9223372036854775807) (h : RI z w E vl cs defs r) (hB : z.B ≤ w.heap.size) :
    Calls Tryz.prog 209 #[.pointer (some ⟨z.wb, 0, none⟩), .int .i64 op, .slice (some ⟨b, 0, none⟩) (ids.length + 1) c] w fun e w' => RPost z w E vl cs defs (leftF op ids a r) e w' := by
  obtain ⟨R, hR⟩ : ∃ R, leftF op ids a r = R := ⟨_, rfl⟩
  rw [hR]
  have HR := Aside0.mk hR
  have HI := Aside0.mk hi
  have HW := Aside0.mk h
  have HA := Aside0.mk (hi.2 0 a rfl).2
  have d0 := (hi.2 0 a rfl).1
  have h1 : (0 : Int) < (ids.length : Int) + 1 := by omega
  clear hi h hR
  go_enter Tryz.func209, Tryz.ntmps209
  go_wp2_with fail
  all_goals (
    go_loopw [8, 18] (fun v8 v18 wr => ∃ (i a' : Nat) (r' : Rd), i ≤ ids.length ∧ v18 = .int .i64 (i : Int) ∧ v8 = .int .i64 (a' : Int) ∧ Aside0 (a' ≤ 1000000) ∧ Aside0 (leftF op (ids.drop i) a' r' = R) ∧ Aside0 (RI z wr E vl cs defs r') ∧ Aside0 (KR z w wr) ∧ Aside0 (Below z.B w wr)) (fun _ v18 _ => ids.length - (intOf v18).toNat)
    case atStart => exact ⟨0, a, r, by omega, rfl, rfl, HA, HR, HW, ⟨KR.refl _⟩, ⟨Below.refl _ _⟩⟩
    case round =>
      obtain ⟨i, a', r', hi, rfl, rfl, HA', HR', HW', HK', HB'⟩ := hrel
      by_cases hlt : i < ids.length
      · have hlt' : (i : Int) < (ids.length : Int) := by omega
        obtain ⟨x, hx⟩ : ∃ x, ids[i] = x := ⟨_, rfl⟩
        have hd := (HI.out.next HK'.out).2 (i + 1) x (by rw [List.getElem?_cons_succ, List.getElem?_eq_getElem hlt, hx])
        have hcell := hd.1
        rw [Nat.add_comm] at hcell
        have HXX := Aside0.mk hd.2
        have HS : Aside0 (thenF (twoF op a' x r') (fun id r => leftF op (ids.drop (i + 1)) id r) = R) := ⟨by
          rw [← HR'.out, List.drop_eq_getElem_cons hlt, hx]; rfl⟩
        clear hd hx
        first
        | (exfalso; omega)
        | (go_wp2_with fail
           refine (two_any z wr E vl cs defs r' op a' x ho HA'.out HXX.out HW'.out (Nat.le_trans hB (HB'.out.size))).mono ?_
           rintro e w1 ⟨rfl, g1, g2, g3⟩
           have G1 := Aside0.mk g1
           have G2 := Aside0.mk (HK'.out.trans g2)
           have G3 := Aside0.mk (HB'.out.trans g3)
           clear g1 g2 g3
           obtain ⟨⟨⟨id, er⟩, r2⟩, hrr⟩ : ∃ rr, twoF op a' x r' = rr := ⟨_, rfl⟩
           have HID : Aside0 (er = 0 → id ≤ 1000000) := ⟨fun q => two_small (by have := G1.out; rw [hrr] at this; exact this) hrr q⟩
           rw [hrr] at HS G1 ⊢
           clear hrr
           dsimp only at G1 HS ⊢
           by_cases he : er = 0
           · subst he
             go_wp2_with fail
             exact ⟨⟨i + 1, id, r2, by omega, by simp, rfl, ⟨HID.out rfl⟩, HS, G1, G2, G3⟩, by simp only [intOf]; omega⟩
           · have hq : failF er r2 = R := by
               have := HS.out
               unfold thenF at this
               rw [if_pos he] at this
               exact this
             have HQ := Aside0.mk hq
             clear hq
             go_wp2_with fail
             go_returns
             rw [← HQ.out]
             exact ⟨rfl, G1.out, G2.out, G3.out⟩)
      · go_wp2_with fail
        go_returns
        have hq := HR'.out
        rw [List.drop_of_length_le (by omega)] at hq
        rw [← hq]
        exact ⟨rfl, HW'.out, HK'.out, HB'.out⟩)
end
end Go.Proofs.YthhnhbpmpdminaaGreatDoor
/-
The reader: a list of nodes that is built. Conditions: the reader in memory.
-/
namespace Go.Proofs.YthhnhbpmpdminaaGreatDoor
set_option maxRecDepth 4096
set_option maxHeartbeats 8000000
set_option linter.unusedSimpArgs false
set_option linter.unusedVariables false
set_option linter.unnecessarySimpa false
open Go.RowKit Go.Proofs.YthhnhbpmpdminaaGreatDoorW.PrintWords Go.Maps
theorem Tryz.infoIntI : (Tryz.prog.info? 3).map (fun i => (i.zero, i.size, i.bytes)) = some (some (.int .i64 0), 1, 8) := by kernel_rfl
section
variable {z : Zr} {w w0 w1 w2 : World} {E : List Ent} {vl : Value} {cs : List Value} {defs : Int} {r : Rd}
def idsN (l : List Nat) : List Value := l.map fun (n : Nat) => Value.int .i64 (n : Int)
structure IB (B0 : Nat) (w : World) (l : List Nat) (v : Value) : Prop where
  own : w.ownsRow B0 3 1 v l.length (idsN l)
  small : ∀ n ∈ l, n ≤ 1000000
/-- Cells of ints are nothing of the reader's. -/
theorem RI.other (h : RI z w E vl cs defs r) {k : Nat} {l : List Value} (hk : Cells w k 3 l) : ¬ RZ z w k := by
  obtain ⟨vn, hg⟩ := h.gi
  rintro ((q | q | q | ⟨_, l', hl'⟩) | q)
  · subst q; exact absurd (hk.ty hg.cells).1 (by decide)
  · subst q
    obtain ⟨D, ⟨es, cl, hm, _⟩, _⟩ := hg.ids
    unfold Cells at hk; rw [hk] at hm; cases hm
  · subst q
    obtain ⟨D, ⟨es, cl, hm, _⟩, _⟩ := hg.names
    unfold Cells at hk; rw [hk] at hm; cases hm
  · exact absurd (hk.ty hl').1 (by decide)
  · subst q; exact absurd (hk.ty h.wk).1 (by decide)
theorem IB.move {B0 : Nat} {l : List Nat} {v : Value} (h : RI z w E vl cs defs r) (hi : IB B0 w l v) (m : KR z w w1) : IB B0 w1 l v :=
  ⟨own_keep hi.own m.mod (fun k hk => by
    obtain ⟨l', hl'⟩ := own_cells hi.own k hk
    exact h.other hl'), hi.small⟩
theorem IB.idok {B0 : Nat} {l : List Nat} {v : Value} (h : RI z w E vl cs defs r) (hi : IB B0 w l v) (hl : l ≠ []) : ∃ b c, v = .slice (some ⟨b, 0, none⟩) l.length c ∧ IdOk z w l b ∧ l.length ≤ c ∧ c ≤ 9223372036854775807 := by
  obtain ⟨b, c, l', rfl, hc, _, h1, _, h2⟩ := own_row hi.own (by cases l; exact absurd rfl hl; simp)
  refine ⟨b, c, rfl, ⟨⟨hc.lt, h.other hc⟩, fun j n hj => ⟨?_, hi.small n (List.mem_of_getElem? hj)⟩⟩, h1, h2⟩
  have := hi.own.cells (g := b) rfl j (.int .i64 (n : Int)) (by unfold idsN; rw [List.getElem?_map, hj]; rfl)
  rw [add0] at this
  exact this
theorem KR.grow (h : KR z w w1) (k : Below w.heap.size w1 w2) : KR z w w2 :=
  ⟨⟨k.os.trans h.mod.os, k.tape.trans h.mod.tape, k.output.trans h.mod.output, Nat.le_trans h.size k.size, fun i hi hs => (k.block i hi).trans (h.mod.keep i hi hs)⟩,
   fun hg => ⟨fun i hi hs => (k.block i hi).trans ((h.ny hg).keep i hi hs), fun i hi ho => (h.ny hg).own i hi (ho.same (k.block _ hg))⟩⟩
/-- The row grows. -/
theorem RI.grown {v : Value} {B0 n : Nat} {xs : List Value} (h : RI z w1 E vl cs defs r) (hv : w1.ownsRow B0 3 1 v n xs) (g : w1.grownBy w2 v.ownBlock) (hs : SI z w2 E vl cs defs) : RI z w2 E vl cs defs r := by
  obtain ⟨vn, hg⟩ := h.gi
  have hm : Mod (fun k => some k = v.ownBlock) w1 w2 := ⟨g.os, g.tape, g.output, g.size, fun i hi hs => g.block i hi hs⟩
  refine ⟨⟨vn, hg.keep hm (fun k hk q q2 => ?_)⟩, hs, h.wk.grown g (fun q => ?_), h.base, h.dec⟩
  · obtain ⟨l', hl'⟩ := own_cells hv k q.symm
    exact h.other hl' (.inl q2)
  · obtain ⟨l', hl'⟩ := own_cells hv _ q
    exact absurd (hl'.ty h.wk).1 (by decide)
theorem IB.push {v v1 : Value} {B0 : Nat} {l : List Nat} {n : Nat} (hi : IB B0 w1 l v) (hn : n ≤ 1000000) (hown : w2.ownsRow B0 3 1 v1 (l.length + 1) (idsN l ++ [.int .i64 (n : Int)])) : IB B0 w2 (l ++ [n]) v1 :=
  ⟨by rw [List.length_append]; unfold idsN at *; rw [List.map_append]; exact hown, fun m hm => by
    rw [List.mem_append, List.mem_singleton] at hm
    rcases hm with hm | rfl
    · exact hi.small m hm
    · exact hn⟩
theorem IB.nil (B0 : Nat) (w : World) : IB B0 w [] (.slice none 0 0) := ⟨⟨rfl, .inl ⟨rfl, rfl⟩⟩, fun n hn => by cases hn⟩
end
end Go.Proofs.YthhnhbpmpdminaaGreatDoor
