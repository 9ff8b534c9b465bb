/-
Several texts as one: Rst Lgty.
-/
import Derived.Test.YthhnhbpmpdminaaGreatDoorXY
import Derived.Test.YthhnhbpmpdminaaGreatDoorXH
import Derived.SizedLaws
import Derived.Test.YthhnhbpmpdminaaGreatDoorXG
import Derived.IntWalk
/-
An argument that is a list of steps, opened. Conditions: it reads as data; its lengths are within reach.
-/
namespace Go.Proofs.YthhnhbpmpdminaaGreatDoor
set_option maxRecDepth 4096
open Go.ChangeShapes Go.WideShapes Go.RowKit Go.Deep
structure Stp where
  what : Int
  sort : Int
  name : ByteArray
  ps : List (ByteArray × Int)
  x : Sx
instance : Inhabited Stp := ⟨⟨0, 0, ⟨#[]⟩, [], ⟨⟨#[]⟩, false, []⟩⟩⟩
def ParArg (B : Nat) (w : World) (ps : List (ByteArray × Int)) (A : Option Addr) : Prop := ∀ (j : Nat) (p : ByteArray × Int), ps[j]? = some p → p.1.size ≤ 140737488355328 ∧ i64ok p.2 ∧
  ∃ ad, A = some ad ∧ ad.block < B ∧ w.cell? (ad.add (j * 2)) = some (.string p.1) ∧ w.cell? ⟨(ad.add (j * 2)).block, (ad.add (j * 2)).off + 1, none⟩ = some (.int .i64 p.2)
def StpOk (B : Nat) (w : World) (s : Stp) (cs : List Value) : Prop := ∃ pa pc xa xc, cs = [.int .i64 s.what, .int .i64 s.sort, .string s.name, .slice pa s.ps.length pc, .string s.x.word, .bool s.x.list, .slice xa s.x.kids.length xc] ∧
  i64ok s.what ∧ i64ok s.sort ∧ s.name.size ≤ maxLen ∧ s.ps.length ≤ pc ∧ pc ≤ 9223372036854775807 ∧ s.ps.length ≤ 140737488355328 ∧ ParArg B w s.ps pa ∧ RT w (fun k => k < B) s.x [.string s.x.word, .bool s.x.list, .slice xa s.x.kids.length xc]
def StpsOk (B : Nat) (w : World) (l : List Stp) (A : Option Addr) : Prop := ∀ (i : Nat) (s : Stp), l[i]? = some s → ∃ ad cs, A = some ad ∧ ad.block < B ∧ (∀ q u, cs[q]? = some u → w.cell? (ad.add (i * 7 + q)) = some u) ∧ StpOk B w s cs
theorem cellsParam : Tryz.prog.cellsOf 77 = 2 := by kernel_rfl
theorem cellsParams : Tryz.prog.cellsOf 62 = 1 := by kernel_rfl
theorem cellsStep : Tryz.prog.cellsOf 65 = 7 := by kernel_rfl
theorem cellsInt : Tryz.prog.cellsOf 3 = 1 := by kernel_rfl
theorem bytesParam : Tryz.prog.bytesOf 77 = 24 := by kernel_rfl
theorem bytesStep : 1 ≤ Tryz.prog.bytesOf 65 := of_decide_eq_true (by kernel_rfl)
theorem i64_wf {n : Int} (h : (Lit.int .i64 n).wf = true) : i64ok n := by
  unfold i64ok
  have h1 : IntKind.i64.min = -9223372036854775808 := by kernel_rfl
  have h2 : IntKind.i64.max = 9223372036854775807 := by kernel_rfl
  simp only [Lit.wf, Bool.and_eq_true, h1, h2] at h
  exact ⟨of_decide_eq_true h.1, of_decide_eq_true h.2⟩
section
variable {H : Type} {enc : TypeId × Value → H} {W : World} {base : Nat} {sp : Nat → Bool} {held : Bool}
theorem param_of (n : Nat) (cs : List Value) (y : DataW H × List MemPlace) (h : DataW.trod enc Tryz.prog W base sp held n 77 cs = some y) (hw : ∀ k ∈ y.1.weights Tryz.prog 77, k ≤ reachBytes) :
    ∃ p : ByteArray × Int, cs = [.string p.1, .int .i64 p.2] ∧ p.1.size ≤ 140737488355328 ∧ i64ok p.2 := by
  have hrb : reachBytes ≤ 140737488355328 := by unfold reachBytes; omega
  obtain ⟨xs, m, rfl, rfl, hcl, hxl, hf⟩ := DataW.trod_struct Tryz.underlying77 h
  rw [cellsParam] at hcl
  match cs, hcl with
  | [v0, v1], _ =>
    have g0 : DataW.trod enc Tryz.prog W base sp held m 9 (([v0, v1].drop 0).take (Tryz.prog.cellsOf 9)) = xs[0]? := hf 0 _ rfl
    have g1 : DataW.trod enc Tryz.prog W base sp held m 3 (([v0, v1].drop 1).take (Tryz.prog.cellsOf 3)) = xs[1]? := hf 1 _ rfl
    have hx2 : xs.length = 2 := hxl
    rw [cellsStr] at g0
    rw [cellsInt] at g1
    rw [List.getElem?_eq_getElem (by omega)] at g0 g1
    obtain ⟨x0, x1, rfl⟩ : ∃ x0 x1, xs = [x0, x1] := by
      match xs, hx2 with
      | [a, b], _ => exact ⟨a, b, rfl⟩
    obtain ⟨wd, h0, hx0, hws⟩ := DataW.trod_string Tryz.underlying9 g0
    obtain ⟨b, h1, _, hb⟩ := DataW.trod_int Tryz.underlying3 g1
    obtain rfl : v0 = .string wd := (List.cons.inj h0).1
    obtain rfl : v1 = .int .i64 b := (List.cons.inj h1).1
    have hx0' : x0 = (.lit (.string wd.data.toList), []) := hx0
    have hsz := hw wd.data.toList.length (by
      simp only [DataW.weights, Tryz.underlying77]
      refine DataW.weights_mem_each (j := 0) (t := 9) (d := x0.1) rfl rfl _ ?_
      rw [hx0']
      simp [DataW.weights])
    have hl : wd.data.toList.length = wd.size := by rw [Array.length_toList]; rfl
    exact ⟨(wd, b), rfl, by show wd.size ≤ _; omega, i64_wf hb⟩
theorem params_of (n : Nat) (cs : List Value) (y : DataW H × List MemPlace) (h : DataW.trod enc Tryz.prog W base sp held n 62 cs = some y) (hw : ∀ k ∈ y.1.weights Tryz.prog 62, k ≤ reachBytes) :
    ∃ (L : List (ByteArray × Int)) (A : Option Addr) (c : Nat), cs = [.slice A L.length c] ∧ L.length ≤ c ∧ c ≤ 9223372036854775807 ∧ L.length ≤ 140737488355328 ∧ ParArg W.heap.size W L A := by
  have hrb : reachBytes ≤ 140737488355328 := by unfold reachBytes; omega
  rcases DataW.trod_slice Tryz.underlying62 h with ⟨rfl, _⟩ | ⟨a, len, cap, elems, rest, m, rfl, rfl, rfl, hb, hl, hm, hlen, hel, _, _⟩
  · exact ⟨[], none, 0, rfl, Nat.le_refl _, by omega, by simp, fun j p hj => by simp at hj⟩
  · have each : ∀ i, i < len → ∃ p : ByteArray × Int, W.cell? (a.add (i * 2 + 0)) = some (.string p.1) ∧ W.cell? (a.add (i * 2 + 1)) = some (.int .i64 p.2) ∧ a.block < W.heap.size ∧ p.1.size ≤ 140737488355328 ∧ i64ok p.2 := by
      intro i hi
      have hh := hel i hi
      rw [List.getElem?_eq_getElem (by omega)] at hh
      obtain ⟨cs', h1, h2⟩ := Option.bind_eq_some_iff.1 hh
      rw [cellsParam] at h1
      obtain ⟨_, h3, h4⟩ := World.cells?_some h1
      obtain ⟨p, rfl, hp1, hp2⟩ := param_of m cs' _ h2 (fun k hk => hw k (by
        simp only [DataW.weights, Tryz.underlying62]
        exact List.mem_cons_of_mem _ (List.mem_append_left _ (weights_allS (List.mem_map.2 ⟨_, List.getElem_mem (by omega), rfl⟩) hk))))
      have hcell : ∀ q u, [Value.string p.1, .int .i64 p.2][q]? = some u → W.cell? (a.add (i * 2 + q)) = some u := fun q u hu => by
        have := h4 q (by have := (List.getElem?_eq_some_iff.1 hu).1; simpa using this)
        rw [add_add] at this
        rw [this]; exact hu
      have h0 := hcell 0 _ rfl
      refine ⟨p, h0, hcell 1 _ rfl, ?_, hp1, hp2⟩
      have := World.block_lt_of_cell? W _ h0
      unfold Addr.add at this
      split at this <;> exact this
    obtain ⟨f, hf⟩ := choose_lt each
    have hw1 := hw (by
      exact (elems.map (·.1)).length * 24 + (rest.map (·.1)).length * 24) (by
      simp only [DataW.weights, Tryz.underlying62, bytesParam]
      rw [← Nat.add_mul]
      exact List.mem_cons_self ..)
    refine ⟨(List.range len).map f, some a, cap, by simp, by simpa using hl, by unfold maxLen at hm; omega, ?_, fun j p hj => ?_⟩
    · simp only [List.length_map, List.length_range] at hw1 ⊢
      omega
    · have hi : j < len := by have := (List.getElem?_eq_some_iff.1 hj).1; simpa using this
      have hpe : p = f j := by
        rw [List.getElem?_map, List.getElem?_range hi] at hj
        exact (Option.some.inj hj).symm
      obtain ⟨h1, h2, h3, h4, h5⟩ := hf j hi
      rw [← hpe] at h1 h2 h4 h5
      refine ⟨h4, h5, a, rfl, h3, by simpa using h1, ?_⟩
      have e : a.add (j * 2 + 1) = ⟨(a.add (j * 2)).block, (a.add (j * 2)).off + 1, none⟩ := by
        unfold Addr.add
        rw [if_neg (by omega)]
        split <;> simp <;> omega
      rw [← e]; exact h2
theorem step_of (n : Nat) (cs : List Value) (y : DataW H × List MemPlace) (h : DataW.trod enc Tryz.prog W base sp held n 65 cs = some y) (hw : ∀ k ∈ y.1.weights Tryz.prog 65, k ≤ reachBytes) : ∃ s, StpOk W.heap.size W s cs := by
  obtain ⟨xs, m, rfl, rfl, hcl, hxl, hf⟩ := DataW.trod_struct Tryz.underlying65 h
  rw [cellsStep] at hcl
  match cs, hcl with
  | [v0, v1, v2, v3, v4, v5, v6], _ =>
    have g0 : DataW.trod enc Tryz.prog W base sp held m 3 (([v0, v1, v2, v3, v4, v5, v6].drop 0).take (Tryz.prog.cellsOf 3)) = xs[0]? := hf 0 _ rfl
    have g1 : DataW.trod enc Tryz.prog W base sp held m 3 (([v0, v1, v2, v3, v4, v5, v6].drop 1).take (Tryz.prog.cellsOf 3)) = xs[1]? := hf 1 _ rfl
    have g2 : DataW.trod enc Tryz.prog W base sp held m 9 (([v0, v1, v2, v3, v4, v5, v6].drop 2).take (Tryz.prog.cellsOf 9)) = xs[2]? := hf 2 _ rfl
    have g3 : DataW.trod enc Tryz.prog W base sp held m 62 (([v0, v1, v2, v3, v4, v5, v6].drop 3).take (Tryz.prog.cellsOf 62)) = xs[3]? := hf 3 _ rfl
    have g4 : DataW.trod enc Tryz.prog W base sp held m 49 (([v0, v1, v2, v3, v4, v5, v6].drop 4).take (Tryz.prog.cellsOf 49)) = xs[4]? := hf 4 _ rfl
    have hx5 : xs.length = 5 := hxl
    rw [cellsInt] at g0 g1
    rw [cellsStr] at g2
    rw [cellsParams] at g3
    rw [cellsSexp] at g4
    rw [List.getElem?_eq_getElem (by omega)] at g0 g1 g2 g3 g4
    obtain ⟨x0, x1, x2, x3, x4, rfl⟩ : ∃ x0 x1 x2 x3 x4, xs = [x0, x1, x2, x3, x4] := by
      match xs, hx5 with
      | [a, b, c, d, e], _ => exact ⟨a, b, c, d, e, rfl⟩
    obtain ⟨wh, h0, _, hb0⟩ := DataW.trod_int Tryz.underlying3 g0
    obtain ⟨so, h1, _, hb1⟩ := DataW.trod_int Tryz.underlying3 g1
    obtain ⟨nm, h2, _, hws⟩ := DataW.trod_string Tryz.underlying9 g2
    obtain ⟨L, A, c, h3, k1, k2, k3, k4⟩ := params_of m _ _ g3 (fun k hk => hw k (by
      simp only [DataW.weights, Tryz.underlying65]
      exact DataW.weights_mem_each (j := 3) (t := 62) (d := x3.1) rfl rfl k hk))
    obtain ⟨x, hx⟩ := tree_of m _ _ g4 (fun k hk => hw k (by
      simp only [DataW.weights, Tryz.underlying65]
      exact DataW.weights_mem_each (j := 4) (t := 49) (d := x4.1) rfl rfl k hk))
    obtain rfl : v0 = .int .i64 wh := (List.cons.inj h0).1
    obtain rfl : v1 = .int .i64 so := (List.cons.inj h1).1
    obtain rfl : v2 = .string nm := (List.cons.inj h2).1
    obtain rfl : v3 = .slice A L.length c := (List.cons.inj h3).1
    obtain ⟨xa, xc, hxe, _, _, _, _⟩ := RT_cells hx
    have hxe2 : [v4, v5, v6] = [.string x.word, .bool x.list, .slice xa x.kids.length xc] := hxe
    simp only [List.cons.injEq, and_true] at hxe2
    obtain ⟨rfl, rfl, rfl⟩ := hxe2
    exact ⟨⟨wh, so, nm, L, x⟩, A, c, xa, xc, rfl, i64_wf hb0, i64_wf hb1, hws, k1, k2, k3, k4, hx⟩
theorem steps_of (n : Nat) (cs : List Value) (y : DataW H × List MemPlace) (h : DataW.trod enc Tryz.prog W base sp held n 55 cs = some y) (hw : ∀ k ∈ y.1.weights Tryz.prog 55, k ≤ reachBytes) :
    ∃ (L : List Stp) (A : Option Addr) (c : Nat), cs = [.slice A L.length c] ∧ L.length ≤ c ∧ c ≤ 9223372036854775807 ∧ L.length ≤ 140737488355328 ∧ StpsOk W.heap.size W L A := by
  have hrb : reachBytes ≤ 140737488355328 := by unfold reachBytes; omega
  rcases DataW.trod_slice Tryz.underlying55 h with ⟨rfl, _⟩ | ⟨a, len, cap, elems, rest, m, rfl, rfl, rfl, hb, hl, hm, hlen, hel, _, _⟩
  · exact ⟨[], none, 0, rfl, Nat.le_refl _, by omega, by simp, fun j p hj => by simp at hj⟩
  · have each : ∀ i, i < len → ∃ s : Stp, ∃ cs', (∀ q u, cs'[q]? = some u → W.cell? (a.add (i * 7 + q)) = some u) ∧ a.block < W.heap.size ∧ StpOk W.heap.size W s cs' := by
      intro i hi
      have hh := hel i hi
      rw [List.getElem?_eq_getElem (by omega)] at hh
      obtain ⟨cs', h1, h2⟩ := Option.bind_eq_some_iff.1 hh
      rw [cellsStep] at h1
      obtain ⟨_, h3, h4⟩ := World.cells?_some h1
      obtain ⟨s, hs⟩ := step_of m cs' _ h2 (fun k hk => hw k (by
        simp only [DataW.weights, Tryz.underlying55]
        exact List.mem_cons_of_mem _ (List.mem_append_left _ (weights_allS (List.mem_map.2 ⟨_, List.getElem_mem (by omega), rfl⟩) hk))))
      have hcell : ∀ q u, cs'[q]? = some u → W.cell? (a.add (i * 7 + q)) = some u := fun q u hu => by
        have := h4 q (by have := (List.getElem?_eq_some_iff.1 hu).1; omega)
        rw [add_add] at this
        rw [this]; exact hu
      refine ⟨s, cs', hcell, ?_, hs⟩
      have h0 := hcell 0 cs'[0] (List.getElem?_eq_getElem (by omega))
      have := World.block_lt_of_cell? W _ h0
      unfold Addr.add at this
      split at this <;> exact this
    obtain ⟨f, hf⟩ := choose_lt each
    have hw1 := hw ((elems.map (·.1)).length * Tryz.prog.bytesOf 65 + (rest.map (·.1)).length * Tryz.prog.bytesOf 65) (by
      simp only [DataW.weights, Tryz.underlying55]
      rw [← Nat.add_mul]
      exact List.mem_cons_self ..)
    have hby := bytesStep
    refine ⟨(List.range len).map f, some a, cap, by simp, by simpa using hl, by unfold maxLen at hm; omega, ?_, fun j p hj => ?_⟩
    · simp only [List.length_map, List.length_range] at hw1 ⊢
      have : elems.length * 1 ≤ elems.length * Tryz.prog.bytesOf 65 := Nat.mul_le_mul_left _ hby
      omega
    · have hi : j < len := by have := (List.getElem?_eq_some_iff.1 hj).1; simpa using this
      have hpe : p = f j := by
        rw [List.getElem?_map, List.getElem?_range hi] at hj
        exact (Option.some.inj hj).symm
      obtain ⟨cs', h1, h2, h3⟩ := hf j hi
      rw [← hpe] at h3
      exact ⟨a, cs', rfl, h2, h1, h3⟩
end
end Go.Proofs.YthhnhbpmpdminaaGreatDoor
/-
The reference's Light: where it tells at most its bound, a thing is as light as that. Conditions: the bound, the depth.
-/
namespace Go.Proofs.YthhnhbpmpdminaaGreatDoor
set_option maxRecDepth 4096
open Go.RowKit Go.Proofs.YthhnhbpmpdminaaGreatDoorW.PrintWords Go.Proofs.YthhnhbpmpdminaaGreatDoorW.PrintLast
mutual
def wt : Sx → Nat
  | ⟨w, _, ks⟩ => 1 + w.size / 8 + wtL ks
def wtL : List Sx → Nat
  | [] => 0
  | k :: r => wt k + wtL r
end
theorem wt_eq (x : Sx) : wt x = 1 + x.word.size / 8 + wtL x.kids := by cases x; simp [wt]
theorem wtL_append : ∀ (a b : List Sx), wtL (a ++ b) = wtL a + wtL b
  | [], b => by simp [wtL]
  | k :: r, b => by simp [wtL, wtL_append r b]; omega
theorem wtL_succ (l : List Sx) (i : Nat) (h : i < l.length) : wtL (l.take (i + 1)) = wtL (l.take i) + wt l[i] := by
  rw [List.take_succ_eq_append_getElem h, wtL_append]; simp [wtL]
def LightOut (x : Sx) (most : Int) (e : Ending) : Prop := ∃ n : Int, e = .returned (.int .i64 n) ∧ 1 ≤ n ∧ n ≤ most + 2305843009213693952 ∧ (n ≤ most → (wt x : Int) ≤ n)
set_option maxHeartbeats 1000000 in
theorem light_any : ∀ (n : Nat) (x : Sx), x.dep ≤ n → ∀ (c : List Value) (most deep : Int) (w : World), RT w (fun k => k < w.heap.size) x c → 0 ≤ most → most ≤ 1000000 → 0 ≤ deep → deep ≤ 1000000 →
    Calls Tryz.prog 26 #[.agg c.toArray, .int .i64 most, .int .i64 deep] w fun e w' => LightOut x most e ∧ Below w.heap.size w w' := by
  intro n
  induction n with
  | zero => intro x hx; rw [Sx.dep_eq] at hx; omega
  | succ n ih =>
    intro x hx c most deep w hc hm0 hm1 hd0 hd1
    obtain ⟨A, k, rfl, hk, hm, hws, hR⟩ := RT_cells hc
    have AR := Aside0.mk hR
    have AX := Aside0.mk hx
    clear hc hR hx
    by_cases hz : most ≤ 0
    · go_enter Tryz.func26, Tryz.ntmps26
      go_wp2_with fail
      go_returns
      refine ⟨⟨most + 1, rfl, by omega, by omega, by omega⟩, ((Mod.refl (fun _ => False) w).alloc _).below⟩
    have hz' : 0 < most := by omega
    by_cases hy : deep ≤ 0
    · clear hz
      go_enter Tryz.func26, Tryz.ntmps26
      go_wp2_with fail
      go_returns
      refine ⟨⟨most + 1, rfl, by omega, by omega, by omega⟩, ((Mod.refl (fun _ => False) w).alloc _).below⟩
    have hy' : 0 < deep := by omega
    clear hz hy
    have hb1 : (x.kids.length : Int) ≤ 9223372036854775807 := by omega
    go_enter Tryz.func26, Tryz.ntmps26
    go_wp2_with fail
    have hc0 : Cells (w.alloc (.cells #[.string x.word, .bool x.list, .slice A x.kids.length k] 49)) w.heap.size 49 [.string x.word, .bool x.list, .slice A x.kids.length k] := Cells.new _ _ _
    have hm0' : Mod (fun _ => False) w (w.alloc (.cells #[.string x.word, .bool x.list, .slice A x.kids.length k] 49)) := (Mod.refl _ _).alloc _
    generalize (w.alloc (.cells #[.string x.word, .bool x.list, .slice A x.kids.length k] 49)) = w0 at hc0 hm0' ⊢
    have AC := Aside0.mk hc0
    have AM0 := Aside0.mk hm0'
    clear hc0 hm0'
    go_loopw [7, 8] (fun v7 v wr => ∃ (i : Nat) (m : Int), i ≤ x.kids.length ∧ v = .int .i64 (i : Int) ∧ v7 = .int .i64 m ∧ 1 ≤ m ∧ m ≤ most + 2305843009213693952 ∧ Aside0 (m ≤ most → ((1 + x.word.size / 8 + wtL (x.kids.take i) : Nat) : Int) ≤ m) ∧ Aside0 (Mod (fun _ => False) w0 wr)) (fun _ v _ => x.kids.length - (intOf v).toNat)
    case atStart =>
      refine ⟨0, _, Nat.zero_le _, rfl, rfl, ?_, ?_, ⟨fun _ => ?_⟩, ⟨Mod.refl _ _⟩⟩
      · omega
      · omega
      · simp [wtL]
    case round =>
      obtain ⟨i, m, hi, rfl, rfl, hq1, hq2, hq3, AM⟩ := hrel
      have q2 := (AC.out.keep AM.out (fun h => h)).cell 2 _ rfl
      by_cases hlt : i < x.kids.length
      · have i0 : (0 : Int) ≤ (i : Int) := by omega
        have i1 : (i : Int) < (x.kids.length : Int) := by omega
        by_cases hmm : m ≤ most
        · obtain ⟨a1, B1, d1, rfl, hs1, ht1, -, z11, z12, z13⟩ := RL_kid ((AM0.out.trans AM.out).RL AR.out) i hlt
          have AT := Aside0.mk ht1
          have AE := Aside0.mk (wtL_succ x.kids i hlt)
          have s1 : IntKind.i64.wrap (most - m) = most - m := IntWalk.i64_in _ (by omega)
          have s2 : IntKind.i64.wrap (deep - 1) = deep - 1 := IntWalk.i64_in _ (by omega)
          clear ht1
          go_wp2_with fail
          refine (ih x.kids[i] (by have := AX.out; rw [Sx.dep_eq] at this; have := Sx.depL_mem (List.getElem_mem hlt); omega) [.string x.kids[i].word, .bool x.kids[i].list, .slice B1 x.kids[i].kids.length d1] (most - m) (deep - 1) _ AT.out (by omega) (by omega) (by omega) (by omega)).mono ?_
          rintro e w2 ⟨⟨r, rfl, hr1, hr2, hr3⟩, hb⟩
          have HR3 := Aside0.mk hr3
          have s3 : IntKind.i64.wrap (m + r) = m + r := IntWalk.i64_in _ (by omega)
          clear hr3
          go_wp2_with fail
          go_roundw
          case rel => exact ⟨i + 1, m + r, by omega, by go_num, rfl, by omega, by omega, ⟨fun h => by have := HR3.out (by omega); have := hq3.out (by omega); have := AE.out; omega⟩, ⟨AM.out.step hb⟩⟩
          case measure => simp [intOf]; omega
        · have hmm' : most < m := by omega
          clear hmm
          go_wp2_with fail
          go_returns
          exact ⟨⟨m, rfl, hq1, hq2, fun h => by omega⟩, (AM0.out.trans AM.out).below⟩
      · have i1 : (x.kids.length : Int) ≤ (i : Int) := by omega
        have hall : i = x.kids.length := by omega
        have HW := Aside0.mk (show m ≤ most → (wt x : Int) ≤ m from fun h => by
          have := hq3.out h
          rw [hall, List.take_length] at this
          rw [wt_eq]; exact this)
        clear hall
        go_wp2_with fail
        go_returns
        exact ⟨⟨m, rfl, hq1, hq2, HW.out⟩, (AM0.out.trans AM.out).below⟩
end Go.Proofs.YthhnhbpmpdminaaGreatDoor
