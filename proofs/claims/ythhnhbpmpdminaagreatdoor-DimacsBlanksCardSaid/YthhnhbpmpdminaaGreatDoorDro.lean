/-
What the laid variables of layer 19's rows give, a world that meets them, and the wrap that keeps the world's shape. Conditions: none.
-/
import Derived.Test.YthhnhbpmpdminaaGreatDoorAkf
import Derived.Test.YthhnhbpmpdminaaGreatDoorScp
import Derived.Test.YthhnhbpmpdminaaGreatDoorXC
import Derived.Test.YthhnhbpmpdminaaGreatDoorRows
import Derived.HandedShaped
import Derived.LaidSub
import Derived.LaidHandle
import Derived.LaidMore
import Derived.Lay
import Derived.ProofKit
import Derived.Lib.LaidTab
import Derived.Lib.ItoaNum
import Derived.Stop.Joined
namespace Go.Proofs.YthhnhbpmpdminaaGreatDoor
set_option maxRecDepth 4096
set_option maxHeartbeats 16000000
open Go.ChangeShapes Go.WideShapes Go.RowKit

def laidE : List (String × DataW Unit) := [("math/bits.deBruijn32tab", Rows.laid_math_bits_deBruijn32tab), ("math/bits.deBruijn64tab", Rows.laid_math_bits_deBruijn64tab), ("internal/strconv.uint64pow10", Rows.laid_internal_strconv_uint64pow10), ("unicode/utf8.acceptRanges", Rows.laid_unicode_utf8_acceptRanges), ("errors.errorType", Rows.laid_errors_errorType), ("unicode/utf8.first", Rows.laid_unicode_utf8_first)]
def laidD : List (String × DataW Unit) := [("math/bits.deBruijn32tab", Rows.laid_math_bits_deBruijn32tab), ("math/bits.deBruijn64tab", Rows.laid_math_bits_deBruijn64tab), ("internal/strconv.uint64pow10", Rows.laid_internal_strconv_uint64pow10), ("unicode/utf8.acceptRanges", Rows.laid_unicode_utf8_acceptRanges), ("unicode/utf8.first", Rows.laid_unicode_utf8_first)]
theorem rowOwn : ownKnob Tryz.prog.godebug = none := by kernel_rfl
theorem rowEt : Tryz.prog.globalNamed "errors.errorType" = some 0 := by kernel_rfl
theorem rowPw : Tryz.prog.globalNamed "internal/strconv.uint64pow10" = some 1 := by kernel_rfl
theorem rowRt : (Tryz.prog.cutTypes.find? (·.1 == "internal/reflectlite.rtype")).map (·.2) = some 182 := by kernel_rfl
theorem rowOne : ((List.range Tryz.prog.types.size).filter fun t => Tryz.prog.rowNamed t [101, 114, 114, 111, 114]) = [25] := by kernel_rfl
theorem laidE_none : (laidE.filter fun x => x.2.handleName?.isNone) = laidD := by kernel_rfl
theorem laidE_some : (laidE.filter fun x => x.2.handleName?.isSome) = [("errors.errorType", Rows.laid_errors_errorType)] := by kernel_rfl
theorem ev_of_laidE {W : World} (h : laidMetH Tryz.prog laidE W) : EV W := by
  have h' := (laidMetH_iff.1 h).2
  rw [laidE_some] at h'
  obtain ⟨name, u, ty, e1, e2, e3, e4, e5⟩ := h' _ (List.mem_singleton.2 rfl)
  have en : name = [101, 114, 114, 111, 114] := (Option.some.inj e1).symm
  subst en
  obtain rfl := Option.some.inj (rowRt.symm.trans e2)
  have hm : ty ∈ (List.range Tryz.prog.types.size).filter fun t => Tryz.prog.rowNamed t [101, 114, 114, 111, 114] := List.mem_filter.2 ⟨List.mem_range.2 e3, e4⟩
  rw [rowOne] at hm
  obtain rfl := List.mem_singleton.1 hm
  have hh : typeHandle Tryz.prog 25 = .pointer (some ⟨9, 25, none⟩) := by kernel_rfl
  rw [hh] at e5
  simpa [EV] using World.var?_cell rowEt e5 0
theorem pow_only : (laidD.filter fun x => x.1 == "internal/strconv.uint64pow10") = [("internal/strconv.uint64pow10", Lib.tabData .u64 Lib.pow10Tab)] := by kernel_rfl
theorem tab_of_laidE {W : World} (h : laidMetH Tryz.prog laidE W) : Lib.TabIs Tryz.prog W "internal/strconv.uint64pow10" .u64 Lib.pow10Tab := by
  have h' := (laidMetH_iff.1 h).1
  rw [laidE_none] at h'
  have h2 := h'.filter (fun x => x.1 == "internal/strconv.uint64pow10")
  rw [pow_only] at h2
  exact Lib.tabIs_of_head (t := 304) (e := 108) (n := 20) rowPw (by kernel_rfl) (by kernel_rfl) (by kernel_rfl) (by kernel_rfl) (by kernel_rfl) h2
theorem pw_of_laidE {W : World} (h : laidMetH Tryz.prog laidE W) : Ab.PW W := fun n hn => by
  have := (tab_of_laidE h).cell rowPw n (by rw [Lib.pow10Tab_length]; exact hn)
  rw [Lib.pow10Tab_at n hn] at this
  exact this
theorem ml_of_shape {W : World} (h : W.ShapedOpen Tryz.prog) : ML W := Tryz.laysM146.s1_3 W h

noncomputable def laidWorldE (os : Os) : World :=
  let w0 := World.laidAll Tryz.prog os laidD
  { w0 with heap := w0.heap.modify 0 fun
      | .cells _ t frozen => .cells #[.iface 182 (.agg #[.pointer (some ⟨9, 25, none⟩)])] t frozen
      | o => o }
theorem laidWorldE_os (os : Os) : (laidWorldE os).os = os := World.laidAll_os _ _ _
theorem laidWorldE_met (os : Os) (args : Array Value) : laidMetH Tryz.prog laidE ((laidWorldE os).forCall (fun _ _ => 0) ⟨#[], args, []⟩).memory :=
  laidMetH_of_parts (laidMet_of_run' 8 (by kernel_rfl) (by kernel_rfl)) (by kernel_rfl)

theorem returns_and_shaped {H : Type} {enc : TypeId × Value → H} {a : Assume} {C : Checked} {os : Os} {f : FuncId} {fn : Func} {s : ChangeSpec} {conds : List PathCond} {apart fresh handsOn again : Bool} {X : World → Array Value → Prop}
    (hX : ∀ (w w' : World) (args : Array Value), w.heap = w'.heap → X w args → X w' args)
    (own : ownKnob C.prog.godebug = none) (started : os.Started) (noInit : C.prog.inits.idxOf? f = none) (hfn : C.prog.funcs[f]? = some fn)
    (witness : ∃ (w : World) (tape : Tape) (i : Input), w.os = os ∧ (w.forCall tape i).Shaped C.prog ∧ i.vars = [] ∧ Input.okWide C.prog (w.forCall tape i) .any w.heap.size f i ∧
      ((s.pre enc C.prog fn conds apart (w.forCall tape i).memory i.args ∧ X (w.forCall tape i).memory i.args) ∧ sizedMet enc C.prog fn (OpenSpec.ofChange s) apart (w.forCall tape i).memory i.args) ∧ a.holds C.prog (lone (Frame.enter C.prog f i.args .normal) [] (w.forCall tape i)))
    (contract : ∀ (W : World) (base : Nat) (args : Array Value) (ds gs : List (DataW H)) (before : List MemPlace),
      (∀ (j : Nat) t v, fn.params[j]? = some t → args[j]? = some v → Value.okWide C.prog W .any base t v) →
      DataW.Whole enc C.prog fn.params.toList s.vars apart W args.toList ds gs before →
      X W args → W.ShapedOpen C.prog →
      Calls C.prog f args W fun e W' => ∃ v, e = .returned v ∧ s.post enc C.prog fn apart fresh handsOn again W args v W') :
    ReturnsInHanded a C os f .any (fun w args => (s.pre enc C.prog fn conds apart w args ∧ X w args) ∧ sizedMet enc C.prog fn (OpenSpec.ofChange s) apart w args) (s.post enc C.prog fn apart fresh handsOn again) := by
  refine returnsInHanded_of_calls own started noInit witness ?_
  intro w tape i _ hsh _ hok hpre hholds
  obtain ⟨_, _, _, fn', hfn', _, _, _, _, hval⟩ := hok
  have e : fn' = fn := Option.some.inj (hfn'.symm.trans hfn)
  subst e
  obtain ⟨⟨⟨ds, gs, before, hw, hc⟩, hx⟩, hz⟩ := hpre
  have hw' := DataW.Whole.of_heap (w' := w.forCall tape i) (by rfl) hw
  refine (contract (w.forCall tape i) w.heap.size i.args ds gs before hval hw' (hX _ _ _ (by rfl) hx) hsh).mono fun e W' ⟨v, he, hp⟩ => ?_
  subst he
  exact ChangeSpec.post_blind hp
end Go.Proofs.YthhnhbpmpdminaaGreatDoor
