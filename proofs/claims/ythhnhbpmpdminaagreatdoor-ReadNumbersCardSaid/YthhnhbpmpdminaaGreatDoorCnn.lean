/-
The statement ReadNumbers, proved: its row, then its tied card. Conditions: none beyond the statement.
-/
import Derived.Test.YthhnhbpmpdminaaGreatDoorNlb
import Derived.Test.YthhnhbpmpdminaaGreatDoorFnn
import Derived.Test.YthhnhbpmpdminaaGreatDoorRows
import Derived.Test.YthhnhbpmpdminaaGreatDoorTie
import Derived.Test.YthhnhbpmpdminaaGreatDoorCards
import Derived.SevenTiedAt
import Derived.ProofKit
import Derived.LaidMore
import Derived.Lay
import Derived.Stop.Joined
import Derived.JoinedCond
import Derived.LaidSub
import Derived.Deep.DeepHandedRow
namespace Go.Proofs.YthhnhbpmpdminaaGreatDoor
set_option maxRecDepth 4096
set_option maxHeartbeats 16000000
open Go.ChangeShapes Go.WideShapes Go.RowKit
def laidT : List (String × DataW Unit) := [("math/bits.deBruijn32tab", Rows.laid_math_bits_deBruijn32tab), ("math/bits.deBruijn64tab", Rows.laid_math_bits_deBruijn64tab), ("internal/strconv.uint64pow10", Rows.laid_internal_strconv_uint64pow10), ("unicode/utf8.acceptRanges", Rows.laid_unicode_utf8_acceptRanges), ("strconv.ErrRange", Rows.laid_strconv_ErrRange), ("strconv.ErrSyntax", Rows.laid_strconv_ErrSyntax), ("unicode/utf8.first", Rows.laid_unicode_utf8_first)]
theorem rowOwn : ownKnob Tryz.prog.godebug = none := by kernel_rfl
theorem rowEr : Tryz.prog.globalNamed "strconv.ErrRange" = some 3 := by kernel_rfl
theorem rowErT : (Tryz.prog.globals[3]?).map (·.type) = some 25 := by kernel_rfl
theorem trod_error {H : Type} {enc : TypeId × Value → H} {W : World} {base fuel : Nat} {sp : Nat → Bool} {held : Bool} {ms : _} (ht : Tryz.prog.underlying 25 = some (.interface ms)) {cs : List Value} {x : DataW H × List MemPlace} (h : DataW.trod enc Tryz.prog W base sp held fuel 25 cs = some x) : ∃ v, cs = [v] ∧ (v = .nilIface ∨ ∃ u w, v = .iface u w) := by
  cases fuel with
  | zero => simp [DataW.trod] at h
  | succ n =>
    unfold DataW.trod at h
    rw [ht] at h
    split at h <;> first
      | (exact ⟨_, rfl, .inl rfl⟩)
      | (exact ⟨_, rfl, .inr ⟨_, _, rfl⟩⟩)
      | simp_all
theorem errR_only : (laidT.filter fun x => x.1 == "strconv.ErrRange") = [("strconv.ErrRange", Rows.laid_strconv_ErrRange)] := by kernel_rfl
theorem errV_of_laid {W : World} (h : laidMetH Tryz.prog laidT W) : ErrV W := by
  rw [MakeChecks.laidMetH_plain _ _ _ (by kernel_rfl)] at h
  have h2 := h.filter (fun x => x.1 == "strconv.ErrRange")
  rw [errR_only] at h2
  obtain ⟨ps, ⟨g, t, cs, fuel, p, q, h3, h4, h5, h6, _⟩, _⟩ := h2
  obtain rfl := Option.some.inj (rowEr.symm.trans h3)
  obtain rfl := Option.some.inj (rowErT.symm.trans h4)
  obtain ⟨v, hv, hv2⟩ := trod_error Tryz.underlying25 h6
  have h7 := World.var?_cell rowEr h5 0
  rw [show cs = #[v] from Array.toList_inj.1 hv] at h7
  exact ⟨v, by simpa using h7, hv2⟩
theorem wrap_range {n : Int} (h : (Lit.int .i64 n).wf = true) : -9223372036854775808 ≤ n ∧ n ≤ 9223372036854775807 := by
  unfold Lit.wf at h
  rw [Bool.and_eq_true, decide_eq_true_eq, decide_eq_true_eq] at h
  exact h
set_option maxRecDepth 100000 in
theorem numbers_lifted (os : Os) (started : os.Started) (H : Type) (enc : TypeId × Value → H) :
    ReturnsInHanded {} Tryz.checked os 10 .any (fun w args => (Rows.readNumbersSpec.pre enc Tryz.prog Tryz.f10 [] false w args ∧ laidMetH Tryz.prog laidT w) ∧ sizedMet enc Tryz.prog Tryz.f10 (OpenSpec.ofChange Rows.readNumbersSpec) false w args)
      (Rows.readNumbersSpec.post enc Tryz.prog Tryz.f10 false true false false) := by
  refine returnsInHanded_of_change_and (C := Tryz.checked) (X := fun w _ => laidMetH Tryz.prog laidT w) (fun _ _ _ hh h => h.of_heap hh) rowOwn started (by kernel_rfl) Tryz.func10
    (ChangeSpec.witness_shaped (enc := enc) (C := Tryz.checked) (os := os) (X := fun w _ => laidMetH Tryz.prog laidT w) false (World.laidAll Tryz.prog os laidT) #[.int .i64 0, .int .i64 0, .int .i64 0] 8 (World.laidAll_os _ _ _)
      (World.shaped_of_ZipB (by kernel_rfl) (by kernel_rfl)) (by kernel_rfl) (by kernel_rfl) (by kernel_rfl)
      (by rw [MakeChecks.laidMetH_plain _ _ _ (by kernel_rfl)]; exact laidMet_laidAll _ (by kernel_rfl) (by kernel_rfl))) ?_
  intro W base args ds gs before hval0 hW _ _ hL _
  have hval : ∀ (j : Nat) t v, Tryz.f10.params[j]? = some t → args[j]? = some v → Value.okWide Tryz.prog W .any base t v := hval0
  have hW' := hW
  obtain ⟨p, q, hA0, hV0, rfl, hfz, hnd⟩ := hW
  have hA : DataW.TrodAll enc Tryz.prog W 0 (fun _ => true) true Tryz.f10.params.toList args.toList ds p := hA0
  have hV : DataW.TrodVars enc Tryz.prog W (fun _ => true) [] gs q := hV0
  rw [Tryz.params10] at hA hval
  obtain ⟨v0, v1, v2, d0, d1, d2, p0, p1, p2, rfl, rfl, rfl, h0, h1, h2⟩ := trodAll_three hA
  obtain ⟨s, rfl, rfl, rfl, ws⟩ := open_int Tryz.underlying3 (hval 0 3 v0 rfl rfl) h0
  obtain ⟨k, rfl, rfl, rfl, wk⟩ := open_int Tryz.underlying3 (hval 1 3 v1 rfl rfl) h1
  obtain ⟨m, rfl, rfl, rfl, wm⟩ := open_int Tryz.underlying3 (hval 2 3 v2 rfl rfl) h2
  obtain ⟨rfl, rfl⟩ : gs = [] ∧ q = [] := by
    cases gs with
    | nil => exact ⟨rfl, hV⟩
    | cons g r => exact absurd hV (by intro h; cases h)
  have e1 : Rows.readNumbersSpec.fn H ([.lit (.int .i64 s), .lit (.int .i64 k), .lit (.int .i64 m)] ++ []) = { results := [.lit (.bool true)], args := [.lit (.int .i64 s), .lit (.int .i64 k), .lit (.int .i64 m)] } := by simp [Rows.readNumbersSpec]
  refine (lawNumbers s k m W (wrap_range ws) (wrap_range wk) (wrap_range wm) (errV_of_laid hL)).mono fun e W' ⟨he, hB⟩ => ?_
  subst he
  refine ⟨_, rfl, _, _, _, [], [], [], hW', ?_, ?_, ?_, hB.frame _, fun h => by cases h⟩
  · rw [e1]; exact trodAll_mk1 (shut_bool Tryz.underlying4 true)
  · rw [e1]; exact trodAll_mk3 (shut_int Tryz.underlying3 ws) (shut_int Tryz.underlying3 wk) (shut_int Tryz.underlying3 wm)
  · rw [e1]; rfl
theorem numbers_holds : Rows.ReadNumbersSaid :=
  OpenClaim.holds_of_wide 10 Tryz.f10 rfl rfl rfl rfl rfl rfl rfl ⟨rfl, rfl, rfl, rfl, rfl⟩ rfl rfl rfl rfl rfl (by kernel_rfl) Tryz.func10 numbers_facts
    (of_decide_eq_true (by kernel_rfl)) (by unfold Func.isWrapper; rw [if_neg (of_decide_eq_false (by kernel_rfl))]; exact ⟨rfl, rfl⟩)
    (fun os started H enc _ => numbers_lifted os started H enc)
theorem numbers_card : Rows.ReadNumbersCardSaid :=
  Claim7.holds_tied_plain_at .later [] [.data, .data, .data, .data, .sentinel, .sentinel, .pinned] true (true, "6fd15b69167aceba847cfc2b1fd3d633e9b2f182d600dd04e3c3551af8e5c480") true
    numbers_holds (fun _ h => by cases h) (by kernel_rfl) (fun _ h => by cases h) readNumbers_row_tie rfl ⟨rfl, rfl⟩ (by kernel_rfl) rfl
    (fun f fn hf hfn => by
      obtain rfl : f = 10 := Option.some.inj ((show Tryz.prog.funcNamed "plait/plaitlaw5.ReadNumbers" = some 10 by kernel_rfl).symm.trans hf) |>.symm
      obtain rfl : fn = Tryz.f10 := (Option.some.inj (Tryz.func10.symm.trans hfn)).symm
      exact ⟨by kernel_rfl, fun j t ht => by
        rw [Tryz.params10] at ht
        have h3 : t = 3 := by
          rcases j with _ | _ | _ | j
          · simpa using ht.symm
          · simpa using ht.symm
          · simpa using ht.symm
          · simp at ht
        rcases h3 with rfl
        exact (show Tryz.prog.wantsStandIn 3 = false by kernel_rfl)⟩)
    (by kernel_rfl)
#print axioms numbers_card
end Go.Proofs.YthhnhbpmpdminaaGreatDoor
