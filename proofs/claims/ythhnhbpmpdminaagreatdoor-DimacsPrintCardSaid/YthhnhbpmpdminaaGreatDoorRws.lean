/-
An argument that is a list of lists of numbers, opened; the wrap that keeps the world's shape and the arguments' reach. Conditions: none.
-/
import Derived.Test.YthhnhbpmpdminaaGreatDoorDlp
import Derived.Test.YthhnhbpmpdminaaGreatDoorDro
import Derived.Deep.Matrix
import Derived.SizedLaws
namespace Go.Proofs.YthhnhbpmpdminaaGreatDoor
set_option maxRecDepth 4096
open Go.ChangeShapes Go.WideShapes Go.RowKit Go.Proofs.YthhnhbpmpdminaaGreatDoorW.PrintWords

theorem weights_all {H : Type} {P : Program} {e : TypeId} {n : Nat} : ∀ {ds : List (DataW H)} {d : DataW H}, d ∈ ds → n ∈ d.weights P e → n ∈ DataW.weightsAll P e ds
  | d0 :: ds, d, h, hn => by
    rcases List.mem_cons.1 h with rfl | h
    · simp only [DataW.weightsAll, List.mem_append]; exact .inl hn
    · simp only [DataW.weightsAll, List.mem_append]; exact .inr (weights_all h hn)
theorem bytes_ints : Tryz.prog.bytesOf 61 = 24 := by kernel_rfl
theorem bytes_int : Tryz.prog.bytesOf 3 = 8 := by kernel_rfl
theorem rows_of {H : Type} {enc : TypeId × Value → H} {w : World} {fuel : Nat} {cs : List Value} {x : DataW H × List MemPlace} (h : DataW.trod enc Tryz.prog w 0 (fun _ => true) true fuel 23 cs = some x) (hw : ∀ n ∈ x.1.weights Tryz.prog 23, n ≤ reachBytes) :
    ∃ (l : List (List Int)) (A : Option Addr) (c : Nat), cs = [.slice A l.length c] ∧ Seen w l (.slice A l.length c) ∧ l.length ≤ 140737488355328 ∧ ∀ y ∈ l, y.length ≤ 140737488355328 := by
  have hrb : reachBytes ≤ 140737488355328 := by unfold reachBytes; omega
  rcases Go.Deep.open_int_rows (k := .i64) Tryz.underlying23 Tryz.underlying61 Tryz.underlying3 (by kernel_rfl) (by kernel_rfl) h with ⟨rfl, rfl⟩ | ⟨a, len, cap, A, L, C, Z, rfl, _, hlc, hcm, rfl, hr⟩
  · exact ⟨[], none, 0, rfl, ⟨none, 0, rfl, Nat.le_refl _, Kd.C_nil _ _⟩, by simp, fun y hy => by cases hy⟩
  · have hll : ((List.range len).map fun r => (Z r).take (L r)).length = len := by simp
    simp only [DataW.weights, Tryz.underlying23, bytes_ints] at hw
    have h1 := hw _ (List.mem_cons_self ..)
    have hC : Kd.C (Kd.slice 3 (Kd.int .i64)) w (some a) len ((List.range len).map fun r => (Z r).take (L r)) := by
      refine ⟨hll, by unfold maxLen at hcm; omega, fun _ => ⟨a, rfl, fun j p hj => ?_⟩⟩
      have hjl : j < len := by have := (List.getElem?_eq_some_iff.1 hj).1; omega
      obtain ⟨g1, g2, g3, g4, _, g6, g7⟩ := hr j (by omega)
      have hp : p = (Z j).take (L j) := by
        rw [List.getElem?_map, List.getElem?_range hjl] at hj
        exact (Option.some.inj hj).symm
      have hpl : p.length = L j := by rw [hp, List.length_take]; omega
      refine ⟨[.slice (A j) (L j) (C j)], rfl, ⟨A j, C j, by rw [hpl], by omega, ⟨rfl, by unfold maxLen at g3; omega, fun h0 => ?_⟩⟩, fun i u hu => ?_⟩
      · cases hA : A j with
        | none => have := g6 hA; omega
        | some a' =>
          obtain ⟨_, g8⟩ := g7 a' hA
          refine ⟨a', rfl, fun i q hi => ⟨[.int .i64 q], rfl, rfl, fun m u hu => ?_⟩⟩
          have hil := (List.getElem?_eq_some_iff.1 hi).1
          have hm : m = 0 := by have := (List.getElem?_eq_some_iff.1 hu).1; simpa using this
          subst hm
          have hu : u = .int .i64 q := by simpa using hu.symm
          have h9 := g8 i (by omega)
          have hz : (Z j).getD i 0 = q := by
            rw [hp, List.getElem?_take] at hi
            split at hi
            · simp [List.getD, hi]
            · cases hi
          rw [hz] at h9
          rw [hu]
          show w.cell? (a'.add (i * 1 + 0)) = _
          rw [Nat.mul_one, Nat.add_zero]; exact h9
      · have hm : i = 0 := by have := (List.getElem?_eq_some_iff.1 hu).1; simpa using this
        subst hm
        have hu : u = .slice (A j) (L j) (C j) := by simpa using hu.symm
        rw [hu]
        show w.cell? (a.add (j * 1 + 0)) = _
        rw [Nat.mul_one, Nat.add_zero]; exact g1
    refine ⟨(List.range len).map fun r => (Z r).take (L r), some a, cap, by rw [hll], ⟨some a, cap, rfl, by omega, by rw [hll]; exact hC⟩, ?_, fun y hy => ?_⟩
    · rw [hll]
      simp only [List.length_map, List.length_range] at h1
      omega
    · obtain ⟨j, hj, rfl⟩ := List.mem_map.1 hy
      have hj := List.mem_range.1 hj
      obtain ⟨g1, g2, g3, g4, _, g6, g7⟩ := hr j (by omega)
      rw [List.length_take]
      cases hA : A j with
      | none => have := g6 hA; omega
      | some a' =>
        have h2 : (((Z j).take (L j)).length + ((Z j).drop (L j)).length) * 8 ≤ reachBytes := by
          refine hw _ (List.mem_cons_of_mem _ (List.mem_append_left _ (weights_all (d := Go.Deep.intRow .i64 (A j) (L j) (Z j)) (List.mem_map.2 ⟨j, List.mem_range.2 hj, rfl⟩) ?_)))
          rw [hA]
          simp only [Go.Deep.intRow, DataW.weights, Tryz.underlying61, bytes_int, Go.ChangeShapes.lits, List.length_map]
          exact List.mem_cons_self ..
        simp only [List.length_take, List.length_drop] at h2
        omega

theorem returns_and_sized {H : Type} {enc : TypeId × Value → H} {a : Assume} {C : Checked} {os : Os} {f : FuncId} {fn : Func} {s : ChangeSpec} {conds : List PathCond} {apart fresh handsOn again : Bool} {X : World → Array Value → Prop}
    (hX : ∀ (w w' : World) (args : Array Value), w.heap = w'.heap → X w args → X w' args)
    (own : ownKnob C.prog.godebug = none) (started : os.Started) (noInit : C.prog.inits.idxOf? f = none) (hfn : C.prog.funcs[f]? = some fn)
    (witness : ∃ (w : World) (tape : Tape) (i : Input), w.os = os ∧ (w.forCall tape i).Shaped C.prog ∧ i.vars = [] ∧ Input.okWide C.prog (w.forCall tape i) .any w.heap.size f i ∧
      ((s.pre enc C.prog fn conds apart (w.forCall tape i).memory i.args ∧ X (w.forCall tape i).memory i.args) ∧ sizedMet enc C.prog fn (OpenSpec.ofChange s) apart (w.forCall tape i).memory i.args) ∧ a.holds C.prog (lone (Frame.enter C.prog f i.args .normal) [] (w.forCall tape i)))
    (contract : ∀ (W : World) (base : Nat) (args : Array Value) (ds gs : List (DataW H)) (before : List MemPlace),
      (∀ (j : Nat) t v, fn.params[j]? = some t → args[j]? = some v → Value.okWide C.prog W .any base t v) →
      DataW.Whole enc C.prog fn.params.toList s.vars apart W args.toList ds gs before →
      (DataW.weightsEach C.prog (fn.params.toList ++ s.plain.varTypes C.prog) (ds ++ gs)).all (· ≤ reachBytes) = true →
      X W args → W.ShapedOpen C.prog →
      Calls C.prog f args W fun e W' => ∃ v, e = .returned v ∧ s.post enc C.prog fn apart fresh handsOn again W args v W') :
    ReturnsInHanded a C os f .any (fun w args => (s.pre enc C.prog fn conds apart w args ∧ X w args) ∧ sizedMet enc C.prog fn (OpenSpec.ofChange s) apart w args) (s.post enc C.prog fn apart fresh handsOn again) := by
  refine returnsInHanded_of_calls own started noInit witness ?_
  intro w tape i _ hsh _ hok hpre hholds
  obtain ⟨_, _, _, fn', hfn', _, _, _, _, hval⟩ := hok
  have e : fn' = fn := Option.some.inj (hfn'.symm.trans hfn)
  subst e
  obtain ⟨⟨⟨ds, gs, before, hw, hc⟩, hx⟩, hz⟩ := hpre
  have hw' := DataW.Whole.of_heap (w' := w.forCall tape i) (by rfl) hw
  refine (contract (w.forCall tape i) w.heap.size i.args ds gs before hval hw' (hz.weights hw) (hX _ _ _ (by rfl) hx) hsh).mono fun e W' ⟨v, he, hp⟩ => ?_
  subst he
  exact ChangeSpec.post_blind hp
end Go.Proofs.YthhnhbpmpdminaaGreatDoor
