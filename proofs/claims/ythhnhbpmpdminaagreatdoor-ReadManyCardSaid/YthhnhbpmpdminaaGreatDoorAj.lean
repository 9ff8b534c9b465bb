/-
A closed call over the abstract memory, and what it tells of the model's call in whatever world. Conditions: the given functions are sound.
-/
import Derived.Test.YthhnhbpmpdminaaGreatDoorAi
import Derived.Laws.Externs
import Derived.Below
namespace Go.Proofs.YthhnhbpmpdminaaGreatDoor
namespace Ab
open Go.RowKit
set_option maxRecDepth 4096

/-- A function without a body that looks at no memory. -/
def flatG (P : Program) (e : Array Value → Sem Value) : List AVal → AHeap → Option (AVal × AHeap) := fun args H =>
  match args.mapM (conc 8) with
  | none => none
  | some l => match pureRun P (e l.toArray) with
    | none => none
    | some r => some (absV 8 r, H)
/-- A function without a body that tells its operand. -/
def sameG : List AVal → AHeap → Option (AVal × AHeap) := fun args H =>
  match args with
  | [x] => some (x, H)
  | _ => none
section
variable {P : Program} {C0 : Ctx}
def ExtOk (P : Program) (C0 : Ctx) (f : FuncId) (g : List AVal → AHeap → Option (AVal × AHeap)) : Prop := ∀ args H v H', g args H = some (v, H') → CallOk P C0 f args H v H'
theorem flat_ok {f : FuncId} {fn : Func} {e : Array Value → Sem Value} (hf : P.funcs[f]? = some fn) (hname : (fn.name == "runtime.NumGoroutine") = false)
    (hb : fn.body.isNone = true) (hn : Extern.findNext fn = none) (he : Extern.find fn = some e) : ExtOk P C0 f (flatG P e) := by
  intro args H v H' h q C W args' h0 hR ha
  unfold flatG at h
  split at h
  · cases h
  · rename_i l hl
    split at h
    · cases h
    · rename_i r hr
      simp only [Option.some.injEq, Prod.mk.injEq] at h
      obtain ⟨rfl, rfl⟩ := h
      have e1 := concs_VR 8 _ _ _ ha hl
      have e2 : args' = l.toArray := by apply Array.ext'; rw [e1]
      refine .inl ⟨r, W, ?_, C, .refl C, absV_VR C 8 r, hR⟩
      rw [run_callFunc_extern hf hname hb hn he, e2, pureRun_run hr W]
      rfl
theorem same_ok {f : FuncId} {fn : Func} {e : Array Value → Sem Value} (hf : P.funcs[f]? = some fn) (hname : (fn.name == "runtime.NumGoroutine") = false)
    (hb : fn.body.isNone = true) (hn : Extern.findNext fn = none) (he : Extern.find fn = some e) (hs : ∀ x W, (e #[x]).run P W = .ok x W) : ExtOk P C0 f sameG := by
  intro args H v H' h q C W args' h0 hR ha
  unfold sameG at h
  split at h
  · rename_i x
    simp only [Option.some.injEq, Prod.mk.injEq] at h
    obtain ⟨rfl, rfl⟩ := h
    obtain ⟨al⟩ := args'
    cases ha with
    | cons _ y _ l' hx ht =>
      cases ht
      exact .inl ⟨y, W, by rw [run_callFunc_extern hf hname hb hn he, hs]; rfl, C, .refl C, hx, hR⟩
  · cases h
/-- The world as it is: nothing writes what is there. -/
def C0of (W : World) (n : Int := 0) (u : Nat → Value := fun _ => .nilFunc) : Ctx := ⟨fun _ => none, fun k => W.heap[k]?, W.os, W.tape, W.output, n, u⟩
theorem R_start (W : World) (n : Int) (u : Nat → Value) : R P (fun _ => false) (C0of W n u) AHeap.empty W :=
  ⟨rfl, rfl, rfl, fun _ _ h => h, fun _ _ _ _ _ h => (by cases h), fun _ _ _ _ _ _ _ h => (by cases h), fun _ h => absurd rfl h, fun _ h => (by cases h)⟩
theorem R_below {q : Nat → Bool} {C : Ctx} {H : AHeap} {W W' : World} {n : Int} {u : Nat → Value} (hC : (C0of W n u).Le C) (h : R P q C H W') : Below W.heap.size W W' := by
  have hk : ∀ k, k < W.heap.size → W'.heap[k]? = W.heap[k]? := fun k hk => by
    have h1 : (C0of W).imm k = some W.heap[k] := by simp [C0of, hk]
    rw [h.imm k _ (hC.imm k _ h1)]
    simp [hk]
  refine ⟨h.os.trans hC.os, h.tape.trans hC.tape, h.output.trans hC.output, ?_, hk⟩
  rcases Nat.eq_zero_or_pos W.heap.size with e | e
  · omega
  · have := hk (W.heap.size - 1) (by omega)
    rw [Array.getElem?_eq_getElem (show W.heap.size - 1 < W.heap.size by omega)] at this
    have := (Array.getElem?_eq_some_iff.1 this).1
    omega
theorem closed_callU {S : St} {W : World} {w : Int} {u : Nat → Value} (F : Fit S (C0of W w u)) {n : Nat} {f : FuncId} {fn : Func} (hf : S.P.funcs[f]? = some fn) (hb : fn.body.isSome = true) {b : Bool} {H : AHeap} (h : acall S n f [] .empty = some (.bool b, H)) :
    Calls S.P f #[] W fun e W' => e = .returned (.bool b) ∧ Below W.heap.size W W' := by
  obtain ⟨c, hc⟩ := Option.isSome_iff_exists.1 hb
  have hrun := enter_run F hf hc #[] W
  rcases (all_ok F n).call f [] .empty _ _ h (fun _ => false) (C0of W w u) W #[] (.refl _) (R_start W w u) .nil with ⟨v', W', h1, _⟩ | ⟨_, h2⟩
  · rw [hrun] at h1; cases h1
  · refine h2.mono fun e W' ⟨v', he, C', hC, hv, hR⟩ => ?_
    subst he
    cases hv
    exact ⟨rfl, R_below hC hR⟩
/-- A call over what the world has not written: what it comes to, and the new memory. -/
theorem closed_anyU {S : St} {W : World} {w : Int} {u : Nat → Value} (F : Fit S (C0of W w u)) {n : Nat} {f : FuncId} {fn : Func} (hf : S.P.funcs[f]? = some fn) (hb : fn.body.isSome = true) {args : List AVal} {args' : Array Value} (ha : VRs (C0of W w u) args args'.toList) {v : AVal} {H : AHeap}
    (h : acall S n f args .empty = some (v, H)) :
    Calls S.P f args' W fun e W' => ∃ v' C', e = .returned v' ∧ VR C' v v' ∧ R S.P (fun _ => false) C' H W' ∧ Below W.heap.size W W' := by
  obtain ⟨c, hc⟩ := Option.isSome_iff_exists.1 hb
  have hrun := enter_run F hf hc args' W
  rcases (all_ok F n).call f args .empty _ _ h (fun _ => false) (C0of W w u) W args' (.refl _) (R_start W w u) ha with ⟨v', W', h1, _⟩ | ⟨_, h2⟩
  · rw [hrun] at h1; cases h1
  · exact h2.mono fun e W' ⟨v', he, C', hC, hv, hR⟩ => ⟨v', C', he, hv, hR, R_below hC hR⟩
theorem closed_call {S : St} {W : World} (F : Fit S (C0of W)) {n : Nat} {f : FuncId} {fn : Func} (hf : S.P.funcs[f]? = some fn) (hb : fn.body.isSome = true) {b : Bool} {H : AHeap} (h : acall S n f [] .empty = some (.bool b, H)) :
    Calls S.P f #[] W fun e W' => e = .returned (.bool b) ∧ Below W.heap.size W W' := closed_callU F hf hb h
theorem closed_any {S : St} {W : World} (F : Fit S (C0of W)) {n : Nat} {f : FuncId} {fn : Func} (hf : S.P.funcs[f]? = some fn) (hb : fn.body.isSome = true) {args : List AVal} {args' : Array Value} (ha : VRs (C0of W) args args'.toList) {v : AVal} {H : AHeap}
    (h : acall S n f args .empty = some (v, H)) :
    Calls S.P f args' W fun e W' => ∃ v' C', e = .returned v' ∧ VR C' v v' ∧ R S.P (fun _ => false) C' H W' ∧ Below W.heap.size W W' := closed_anyU F hf hb ha h
/-- Nothing is given. -/
theorem bare_fit {S : St} (h1 : S.P.follows .mixedOrders = true) (h2 : S.ext = fun _ => none) (h3 : S.glob = fun _ => .top) (h4 : (S.P.funcs.all fun fn => !(fn.body.isSome && fn.name == "runtime.NumGoroutine")) = true) (C : Ctx) : Fit S C := by
  refine ⟨h1, fun g => ?_, fun f g hg => ?_, fun f fn hf hb => ?_⟩
  · rw [h3]; exact .top _
  · rw [h2] at hg; cases hg
  · have h := Array.all_eq_true'.1 h4 fn (Array.mem_of_getElem? hf)
    rw [hb] at h
    simpa using h
end
end Ab
end Go.Proofs.YthhnhbpmpdminaaGreatDoor
