/-
Several texts as one: Rnm Rnw.
-/
import Derived.Test.YthhnhbpmpdminaaGreatDoorRdf
import Derived.Test.YthhnhbpmpdminaaGreatDoorRdp
/-
read.Scope: Names; plaithelp.Params of equal lists. Conditions: the reader in memory.
-/
namespace Go.Proofs.YthhnhbpmpdminaaGreatDoor
set_option maxRecDepth 4096
set_option maxHeartbeats 8000000
set_option linter.unusedSimpArgs false
set_option linter.unusedVariables false
set_option linter.unnecessarySimpa false
open Go.RowKit Go.Proofs.YthhnhbpmpdminaaGreatDoorW.PrintWords Go.Maps PReadTwice
theorem names_snoc (E : List Ent) (i : Nat) (e : Ent) (h : E[i]? = some e) : namesV (E.take (i + 1)) = namesV (E.take i) ++ (if e.defined then [] else [(e.name, e.sort)]) := by
  rw [List.take_add_one, h]
  unfold namesV
  rw [List.filter_append, List.map_append]
  congr 1
  simp only [Option.toList_some, List.filter_cons, List.filter_nil]
  cases e.defined <;> rfl
theorem names_le (E : List Ent) (i : Nat) : (namesV (E.take i)).length ≤ i := by
  unfold namesV
  rw [List.length_map]
  exact Nat.le_trans (List.length_filter_le _ _) (by rw [List.length_take]; omega)
theorem parC_snoc (l : List (ByteArray × Int)) (p : ByteArray × Int) : parC (l ++ [p]) = parC l ++ [.string p.1, .int .i64 p.2] := by unfold parC; simp
theorem Names_any (z : Zr) (w : World) (s : Sc) (h : SS z w s) : Calls Tryz.prog 34 #[.pointer (some ⟨z.sb, 0, none⟩)] w fun e w' => (∃ v, e = .returned v ∧ w'.ownsRow w.heap.size 77 2 v (namesV s.E).length (parC (namesV s.E))) ∧ Below w.heap.size w w' := by
  obtain ⟨vl, cs, hI, hE⟩ := h.sc
  have c1 := hI.scope.cell 1 _ rfl
  obtain ⟨Al, cl, rfl⟩ : ∃ A c, vl = .slice A s.E.length c := by
    rcases hI.row.2 with ⟨q, q0⟩ | ⟨b, cap, cur, q, _⟩
    · exact ⟨none, 0, by rw [q0]; exact q⟩
    · exact ⟨_, _, q⟩
  have HI := Aside0.mk hI
  have HE := Aside0.mk hE
  have hlen := hI.len
  obtain ⟨N, hN⟩ : ∃ N, s.E.length = N := ⟨_, rfl⟩
  rw [hN] at c1 hlen
  have AN := Aside0.mk hN
  have hN1 : (N : Int) ≤ 9223372036854775807 := by omega
  clear h hI hE hN
  go_enter Tryz.func34, Tryz.ntmps34
  go_wp2_with fail
  clear c1
  go_loopw [3, 5, 11] (fun v3 v5 v11 wr => ∃ i : Nat, i ≤ N ∧ v11 = .int .i64 (i : Int) ∧ Aside0 (wr.ownsRow w.heap.size 77 2 v3 (namesV (s.E.take i)).length (parC (namesV (s.E.take i)))) ∧ Aside0 (Below w.heap.size w wr)) (fun _ _ v11 _ => N - (intOf v11).toNat)
  case atStart => exact ⟨0, by omega, rfl, ⟨⟨rfl, .inl ⟨rfl, rfl⟩⟩⟩, ⟨Below.refl _ _⟩⟩
  case round =>
    obtain ⟨i, hi, rfl, HO, HB⟩ := hrel
    by_cases hlt : i < N
    · have i0 : (0 : Int) ≤ (i : Int) := by omega
      have i1 : (i : Int) < (N : Int) := by omega
      obtain ⟨e, he⟩ : ∃ e, s.E[i]? = some e := ⟨_, List.getElem?_eq_getElem (by rw [AN.out]; exact hlt)⟩
      obtain ⟨bl, c2, hv, hcell⟩ := HI.out.ent (i := i) (by rw [AN.out]; exact hlt)
      simp only [Value.slice.injEq, true_and] at hv
      obtain ⟨rfl, rfl⟩ := hv
      obtain ⟨pa, pc, ba, bc, hec, _, _, _, _, hnz, hso⟩ := HE.out i e he
      rw [hec] at hcell
      have HNM := Aside0.mk (names_snoc s.E i e he)
      have HNL := Aside0.mk (names_le s.E i)
      obtain ⟨pl, hpl⟩ : ∃ v, e.params.length = v := ⟨_, rfl⟩
      obtain ⟨kl, hkl⟩ : ∃ v, e.body.kids.length = v := ⟨_, rfl⟩
      rw [hpl, hkl] at hcell
      have y0 := cell_below HB.out (hcell 0 _ rfl)
      have y1 := cell_below HB.out (hcell 1 _ rfl)
      have y2 := cell_below HB.out (hcell 2 _ rfl)
      have y3 := cell_below HB.out (hcell 3 _ rfl)
      have y4 := cell_below HB.out (hcell 4 _ rfl)
      have y5 := cell_below HB.out (hcell 5 _ rfl)
      have y6 := cell_below HB.out (hcell 6 _ rfl)
      simp only [Nat.add_zero] at y0
      obtain ⟨nm, hnm⟩ : ∃ v, e.name = v := ⟨_, rfl⟩
      obtain ⟨so, hso2⟩ : ∃ v, e.sort = v := ⟨_, rfl⟩
      rw [hnm] at y0 HNM
      rw [hso2] at y3 HNM
      have hc0 := Cells.new wr 129 [.string nm, .bool e.defined, .slice pa pl pc, .int .i64 so, .string e.body.word, .bool e.body.list, .slice ba kl bc]
      have hb0 := HB.out.alloc HB.out.size (.cells #[.string nm, .bool e.defined, .slice pa pl pc, .int .i64 so, .string e.body.word, .bool e.body.list, .slice ba kl bc] 129)
      have ho0 := HO.out.alloc (.cells #[.string nm, .bool e.defined, .slice pa pl pc, .int .i64 so, .string e.body.word, .bool e.body.list, .slice ba kl bc] 129)
      obtain ⟨n, hn⟩ : ∃ n, (namesV (s.E.take i)).length = n := ⟨_, rfl⟩
      rw [hn] at HNL ho0
      have HNN := Aside0.mk hn
      clear hec hpl hkl hcell hnz hso hnm hso2 he hn
      cases hd : e.defined with
      | true =>
        rw [hd] at y1 HNM hc0 hb0 ho0
        have HB0 := Aside0.mk hb0
        have HO0 := Aside0.mk ho0
        clear hd hb0 ho0 hc0
        go_wp2_with fail
        go_roundw
        case rel => exact ⟨i + 1, by omega, by go_num, ⟨by rw [HNM.out, if_pos rfl, List.append_nil, HNN.out]; exact HO0.out⟩, HB0⟩
        case measure => simp [intOf]; omega
      | false =>
        rw [hd] at y1 HNM hc0 hb0 ho0
        obtain ⟨w1, hw1⟩ : ∃ w1, wr.alloc (.cells #[.string nm, .bool false, .slice pa pl pc, .int .i64 so, .string e.body.word, .bool e.body.list, .slice ba kl bc] 129) = w1 := ⟨_, rfl⟩
        have hb0' : Below w.heap.size w w1 := by rw [← hw1]; exact hb0
        have ho0' : w1.ownsRow w.heap.size 77 2 u3 n (parC (namesV (s.E.take i))) := by rw [← hw1]; exact ho0
        have hc0' : Cells w1 wr.heap.size 129 [.string nm, .bool false, .slice pa pl pc, .int .i64 so, .string e.body.word, .bool e.body.list, .slice ba kl bc] := by rw [← hw1]; exact hc0
        have HB0 := Aside0.mk hb0'
        have HO0 := Aside0.mk ho0'
        have HNL2 := HNL.out
        have z0 := hc0'.cell 0 _ rfl
        have z1 := hc0'.cell 1 _ rfl
        have z3 := hc0'.cell 3 _ rfl
        clear hd hb0 ho0 hc0 hb0' ho0' hc0'
        go_upto_region 5 with (fail)
        try rw [hw1]
        clear hw1 y0 y1 y2 y3 y4 y5 y6
        go_wp2_with (at_builtin; (refine apl_at (w0 := w) _ w.heap.size (.tmp 18) (.tmp 24) 62 77 (.agg #[.string ⟨#[]⟩, .int .i64 0]) 2 24 u3 n (parC (namesV (s.E.take i))) [.string nm, .int .i64 so] ⟨w1.heap.size, 0, none⟩ 1 rfl rfl (fun j u hu => by rw [add0]; exact (Cells.new w1 _ _).cell j u hu) Tryz.underlying62 infoParam rfl (by decide) (by decide) (by rfl) (by rfl) rfl (by simp [Value.oneCell']) (HO0.out.alloc _) (HB0.out.alloc HB0.out.size _) (Nat.le_trans HB0.out.size (by simp)) (by omega) ?_; intro v1 w3 hown1 hB3 hg1 hat1; have HO1 := Aside0.mk hown1; have HB3 := Aside0.mk hB3; clear hown1 hB3 hg1 hat1))
        go_roundw
        case rel => exact ⟨i + 1, by omega, by go_num, ⟨by rw [HNM.out, if_neg (by simp), parC_snoc, List.length_append, HNN.out]; exact HO1.out⟩, HB3⟩
        case measure => simp [intOf]; omega
    · have hall : i = N := by omega
      have i1 : ¬ (i : Int) < (N : Int) := by omega
      have HF : Aside0 (wr.ownsRow w.heap.size 77 2 u3 (namesV s.E).length (parC (namesV s.E))) := ⟨by have := HO.out; rw [hall, ← AN.out, List.take_length] at this; exact this⟩
      clear hall
      go_wp2_with fail
      go_returns
      exact ⟨⟨_, rfl, HF.out⟩, HB.out⟩
end Go.Proofs.YthhnhbpmpdminaaGreatDoor
/-
term.New, read.New: the reader without names. Conditions: none.
-/
namespace Go.Proofs.YthhnhbpmpdminaaGreatDoor
set_option maxRecDepth 4096
set_option maxHeartbeats 8000000
set_option linter.unusedSimpArgs false
set_option linter.unusedVariables false
set_option linter.unnecessarySimpa false
open Go.RowKit Go.Proofs.YthhnhbpmpdminaaGreatDoorW.PrintWords Go.Maps PReadTwice
theorem tNew_any50 (w : World) : Calls Tryz.prog 32 #[.int .i64 50] w fun e w' => ∃ g bi bn, e = .returned (.pointer (some ⟨g, 0, none⟩)) ∧ GI w' w.heap.size g ⟨50, []⟩ (.slice none 0 0) bi bn ∧ Below w.heap.size w w' := by
  have hmm := @run_makeMap Tryz.prog
  obtain ⟨w1, hw1⟩ : ∃ w1, w.alloc (.map #[] 0) = w1 := ⟨_, rfl⟩
  obtain ⟨w2, hw2⟩ : ∃ w2, w1.alloc (.map #[] 0) = w2 := ⟨_, rfl⟩
  have hs1 : w1.heap.size = w.heap.size + 1 := by rw [← hw1]; simp
  have hs2 : w2.heap.size = w.heap.size + 2 := by rw [← hw2]; simp; omega
  have hm1 : w1.ownsMap Tryz.prog 112 (plainElem (H := Unit) Tryz.prog 3) w.heap.size 0 (.map []) := by rw [← hw1]; exact World.ownsMap_made w Tryz.prog 112 _
  have hm2 : w2.ownsMap Tryz.prog 9 (plainElem (H := Unit) Tryz.prog 3) w1.heap.size 0 (.map []) := by rw [← hw2]; exact World.ownsMap_made w1 Tryz.prog 9 _
  have hb1 : Below w.heap.size w w1 := by rw [← hw1]; exact (Below.refl _ w).alloc (Nat.le_refl _) _
  have hb2 : Below w1.heap.size w1 w2 := by rw [← hw2]; exact (Below.refl _ w1).alloc (Nat.le_refl _) _
  have hG : ∀ w3, w2.alloc (.cells #[.int .i64 50, .slice none 0 0, .map (some w.heap.size), .map (some w1.heap.size)] 124) = w3 → GI w3 w.heap.size w2.heap.size ⟨50, []⟩ (.slice none 0 0) w.heap.size w1.heap.size ∧ Below w.heap.size w w3 := by
    rintro w3 rfl
    have hb3 : Below w2.heap.size w2 (w2.alloc (.cells #[.int .i64 50, .slice none 0 0, .map (some w.heap.size), .map (some w1.heap.size)] 124)) := (Below.refl _ w2).alloc (Nat.le_refl _) _
    refine ⟨⟨Cells.new w2 _ _, by omega, by decide, Nat.zero_le _, ⟨rfl, .inl ⟨rfl, rfl⟩⟩, fun x hx => (by cases hx), fun x hx => (by cases hx), ⟨.map [], gmap_heap (gmap_heap hm1 (hb2.block _ (by omega))) (hb3.block _ (by omega)), IdsOk.nil⟩, ⟨.map [], gmap_heap hm2 (hb3.block _ (by omega)), NamesOk.nil⟩, by omega, by omega, by omega⟩, (hb1.trans (hb2.mono hb1.size)).trans (hb3.mono (by omega))⟩
  have HG := Aside0.mk hG
  clear hs1 hs2 hm1 hm2 hb1 hb2 hG
  go_enter Tryz.func32, Tryz.ntmps32
  go_wp2_with fail
  go_returns
  exact ⟨_, _, _, rfl, HG.out _ rfl⟩
theorem rNew_any (w : World) (g : Nat) : Calls Tryz.prog 33 #[.pointer (some ⟨g, 0, none⟩)] w fun e w' => ∃ sb ab, e = .returned (.pointer (some ⟨sb, 0, none⟩)) ∧ Cells w' sb 127 [.pointer (some ⟨g, 0, none⟩), .slice none 0 0, .map (some ab), .int .i64 0] ∧ gmap 9 w' ab 0 (.map []) ∧ w.heap.size ≤ ab ∧ w.heap.size ≤ sb ∧ Below w.heap.size w w' := by
  have hmm := @run_makeMap Tryz.prog
  obtain ⟨w1, hw1⟩ : ∃ w1, w.alloc (.map #[] 0) = w1 := ⟨_, rfl⟩
  have hs1 : w1.heap.size = w.heap.size + 1 := by rw [← hw1]; simp
  have hm1 : w1.ownsMap Tryz.prog 9 (plainElem (H := Unit) Tryz.prog 3) w.heap.size 0 (.map []) := by rw [← hw1]; exact World.ownsMap_made w Tryz.prog 9 _
  have hb1 : Below w.heap.size w w1 := by rw [← hw1]; exact (Below.refl _ w).alloc (Nat.le_refl _) _
  have hG : ∀ w3, w1.alloc (.cells #[.pointer (some ⟨g, 0, none⟩), .slice none 0 0, .map (some w.heap.size), .int .i64 0] 127) = w3 → Cells w3 w1.heap.size 127 [.pointer (some ⟨g, 0, none⟩), .slice none 0 0, .map (some w.heap.size), .int .i64 0] ∧ gmap 9 w3 w.heap.size 0 (.map []) ∧ w.heap.size ≤ w.heap.size ∧ w.heap.size ≤ w1.heap.size ∧ Below w.heap.size w w3 := by
    rintro w3 rfl
    have hb3 : Below w1.heap.size w1 (w1.alloc (.cells #[.pointer (some ⟨g, 0, none⟩), .slice none 0 0, .map (some w.heap.size), .int .i64 0] 127)) := (Below.refl _ w1).alloc (Nat.le_refl _) _
    exact ⟨Cells.new w1 _ _, gmap_heap hm1 (hb3.block _ (by omega)), Nat.le_refl _, by omega, hb1.trans (hb3.mono hb1.size)⟩
  have HG := Aside0.mk hG
  clear hs1 hm1 hb1 hG
  go_enter Tryz.func33, Tryz.ntmps33
  go_wp2_with fail
  go_returns
  exact ⟨_, _, rfl, HG.out _ rfl⟩
/-- The reader at its beginning. -/
theorem SS.start {w1 w : World} {B g bi bn sb ab m : Nat} (hg1 : GI w1 B g ⟨m, []⟩ (.slice none 0 0) bi bn) (hb : Below w1.heap.size w1 w) (hB : B ≤ w1.heap.size) (hsc : Cells w sb 127 [.pointer (some ⟨g, 0, none⟩), .slice none 0 0, .map (some ab), .int .i64 0]) (hab : gmap 9 w ab 0 (.map [])) (h1 : w1.heap.size ≤ ab) (h2 : w1.heap.size ≤ sb) (he : ErrV w) (heB : 3 < B) :
    SS ⟨B, g, bi, bn, sb, g, ab⟩ w ⟨[], ⟨m, []⟩, 0⟩ := by
  have hg := hg1.below hb
  have hlt := hg1.g_lt
  have hnr : ∀ k, k < w.heap.size → k ≠ g → k ≠ bi → k ≠ bn → (¬ ∃ l, Cells w k 112 l) → NR ⟨B, g, bi, bn, sb, g, ab⟩ w k := fun k hk e1 e2 e3 e4 => ⟨hk, fun q => by
    rcases q with (q | q | q | ⟨_, q⟩) | q
    · exact e1 q
    · exact e2 q
    · exact e3 q
    · exact e4 q
    · exact e1 q⟩
  have hsn := hnr sb hsc.lt (by omega) (by omega) (by omega) (fun ⟨l, hl⟩ => absurd (hsc.ty hl).1 (by decide))
  have han := hnr ab hab.lt (by omega) (by omega) (by omega) (fun ⟨l, hl⟩ => gmap_ne hab hl rfl)
  obtain ⟨ev, he1, he2⟩ := he
  have hen : NR ⟨B, g, bi, bn, sb, g, ab⟩ w 3 := ⟨World.block_lt_of_cell? w _ he1, fun q => by
    have h3 := hg.base
    have h4 := hg.ibase
    have h5 := hg.nbase
    rcases q with (q | q | q | ⟨q, _⟩) | q
    · have : 3 = g := q; omega
    · have : 3 = bi := q; omega
    · have : 3 = bn := q; omega
    · have : B ≤ 3 := q; omega
    · have : 3 = g := q; omega⟩
  refine ⟨rfl, ⟨_, hg⟩, ⟨.slice none 0 0, [], ⟨hsc, hsn, ⟨rfl, .inl ⟨rfl, rfl⟩⟩, fun k hk => (by simp [Value.ownBlock] at hk), fun i e hi => (by simp at hi), ⟨.map [], hab, fun s hs => rfl⟩, han, Nat.zero_le _, ⟨ev, he1, he2⟩, hen⟩, fun i e hi => (by simp at hi)⟩, fun e he => (by cases he), Nat.le_trans hB h2, Nat.le_trans hB h1, heB⟩
end Go.Proofs.YthhnhbpmpdminaaGreatDoor
