/-
The statement ReadTwice, its second form, proved: its row, then its tied card. Conditions: none beyond the statement.
-/
import Derived.Test.YthhnhbpmpdminaaGreatDoorRlw
import Derived.Test.YthhnhbpmpdminaaGreatDoorFdt
import Derived.Test.YthhnhbpmpdminaaGreatDoorRows
import Derived.Test.YthhnhbpmpdminaaGreatDoorTie
import Derived.Test.YthhnhbpmpdminaaGreatDoorCards
import Derived.SevenTiedAt
import Derived.ProofKit
import Derived.LaidMore
import Derived.LaidSub
import Derived.Lay
import Derived.Stop.Joined
import Derived.JoinedCond
import Derived.Deep.DeepHandedRow
namespace Go.Proofs.YthhnhbpmpdminaaGreatDoor
set_option maxRecDepth 4096
set_option maxHeartbeats 16000000
open Go.ChangeShapes Go.WideShapes Go.RowKit
def laidT : List (String × DataW Unit) := [("math/bits.deBruijn32tab", Rows.laid_math_bits_deBruijn32tab), ("math/bits.deBruijn64tab", Rows.laid_math_bits_deBruijn64tab), ("internal/strconv.uint64pow10", Rows.laid_internal_strconv_uint64pow10), ("unicode/utf8.acceptRanges", Rows.laid_unicode_utf8_acceptRanges), ("strconv.ErrRange", Rows.laid_strconv_ErrRange), ("strconv.ErrSyntax", Rows.laid_strconv_ErrSyntax), ("unicode/utf8.first", Rows.laid_unicode_utf8_first)]
theorem rowOwn : ownKnob Tryz.prog.godebug = none := by kernel_rfl
theorem laidOutOk : laidOutB Tryz.prog = true := by kernel_rfl
theorem rowEr : Tryz.prog.globalNamed "strconv.ErrRange" = some 3 := by kernel_rfl
theorem rowErT : (Tryz.prog.globals[3]?).map (·.type) = some 25 := by kernel_rfl
theorem trod_error {H : Type} {enc : TypeId × Value → H} {W : World} {base fuel : Nat} {sp : Nat → Bool} {held : Bool} {ms : _} (ht : Tryz.prog.underlying 25 = some (.interface ms)) {cs : List Value} {x : DataW H × List MemPlace} (h : DataW.trod enc Tryz.prog W base sp held fuel 25 cs = some x) : ∃ v, cs = [v] ∧ (v = .nilIface ∨ ∃ u w, v = .iface u w) := by
  cases fuel with
  | zero => simp [DataW.trod] at h
  | succ n =>
    unfold DataW.trod at h
    rw [ht] at h
    split at h <;> first
      | (exact ⟨_, rfl, .inl rfl⟩)
      | (exact ⟨_, rfl, .inr ⟨_, _, rfl⟩⟩)
      | simp_all
theorem errR_only : (laidT.filter fun x => x.1 == "strconv.ErrRange") = [("strconv.ErrRange", Rows.laid_strconv_ErrRange)] := by kernel_rfl
theorem errV_of_laid {W : World} (h : laidMetH Tryz.prog laidT W) : ErrV W := by
  rw [MakeChecks.laidMetH_plain _ _ _ (by kernel_rfl)] at h
  have h2 := h.filter (fun x => x.1 == "strconv.ErrRange")
  rw [errR_only] at h2
  obtain ⟨ps, ⟨g, t, cs, fuel, p, q, h3, h4, h5, h6, _⟩, _⟩ := h2
  obtain rfl := Option.some.inj (rowEr.symm.trans h3)
  obtain rfl := Option.some.inj (rowErT.symm.trans h4)
  obtain ⟨v, hv, hv2⟩ := trod_error Tryz.underlying25 h6
  have h7 := World.var?_cell rowEr h5 0
  rw [show cs = #[v] from Array.toList_inj.1 hv] at h7
  exact ⟨v, by simpa using h7, hv2⟩
theorem twice_reads (os : Os) {H : Type} (enc : TypeId × Value → H) : DataW.whole enc Tryz.prog ((World.laidAll Tryz.prog os laidT).forCall (fun _ _ => 0) ⟨#[], #[.slice none 0 0], []⟩).memory Tryz.f8.params.toList Rows.readTwiceSpec.vars false #[Value.slice none 0 0].toList 8 = some ([.nil], [], []) := by kernel_rfl
set_option maxRecDepth 100000 in
theorem twice_lifted (os : Os) (started : os.Started) (H : Type) (enc : TypeId × Value → H) (F : Stop.Interp) :
    ReturnsInHanded {} Tryz.checked os 8 .any ((Rows.OpenSpec.upto Rows.readTwiceSpec).preRow enc Tryz.prog Tryz.f8 Rows.readTwiceUptoRow.domain false laidT) (((Rows.OpenSpec.upto Rows.readTwiceSpec).at F).post enc Tryz.prog Tryz.f8 false true false false) := by
  have hok : Input.okWideB Tryz.prog ((World.laidAll Tryz.prog os laidT).forCall (fun _ _ => 0) ⟨#[], #[.slice none 0 0], []⟩) 8 ⟨#[], #[.slice none 0 0], []⟩ = true := by kernel_rfl
  refine returnsInHanded_of_row (C := Tryz.checked) (s := Rows.OpenSpec.upto Rows.readTwiceSpec) rowOwn started (by kernel_rfl) Tryz.func8
    ⟨World.laidAll Tryz.prog os laidT, fun _ _ => 0, ⟨#[], #[.slice none 0 0], []⟩, World.laidAll_os _ _ _, World.shaped_of_ZipB (by kernel_rfl) (by kernel_rfl), (Input.okWide_of_okWideB (base := 0) hok).1, (Input.okWide_of_okWideB hok).2,
      OpenSpec.preRow_of_cond 8 (twice_reads os enc) (by kernel_rfl) (fun k hk => by cases hk; kernel_rfl) (by kernel_rfl) (by rw [MakeChecks.laidMetH_plain _ _ _ (by kernel_rfl)]; exact laidMet_laidAll _ (by kernel_rfl) (by kernel_rfl)), by
        simp only [Assume.holds]
        exact ⟨by simp, by simp, fun _ => Modest.zero, by simp, by simp⟩⟩ ?_
  intro W base args ds gs before hval0 hW _ _ hsz hL _ _
  have hval : ∀ (j : Nat) t v, Tryz.f8.params[j]? = some t → args[j]? = some v → Value.okWide Tryz.prog W .any base t v := hval0
  have hW' := hW
  obtain ⟨p, q, hA0, hV0, rfl, hfz, hnd⟩ := hW
  have hA : DataW.TrodAll enc Tryz.prog W 0 (fun _ => true) true Tryz.f8.params.toList args.toList ds p := hA0
  have hV : DataW.TrodVars enc Tryz.prog W (fun _ => true) [] gs q := hV0
  rw [Tryz.params8] at hA hval hsz
  obtain ⟨v0, d0, rfl, rfl, h0⟩ := trodAll_one hA
  obtain ⟨A0, n0, c0, rfl⟩ := okWide_slice Tryz.underlying55 (hval 0 55 v0 rfl rfl)
  obtain ⟨fuel, hfu⟩ := id h0
  obtain ⟨l, A, c, hse, _, _, hl, hS⟩ := steps_of fuel _ _ hfu (fun n hn => by
    have := List.all_eq_true.1 hsz n (DataW.weights_mem_each (j := 0) (t := 55) (d := d0) rfl rfl n hn)
    simpa using this)
  have hse2 : Value.slice A0 n0 c0 = .slice A l.length c := by simpa [Value.cells] using hse
  rw [hse2] at hA0 hA hval hval0 h0 hW' ⊢
  obtain ⟨rfl, rfl⟩ : gs = [] ∧ q = [] := by
    cases gs with
    | nil => exact ⟨rfl, hV⟩
    | cons g r => exact absurd hV (by intro h; cases h)
  have e1 : Rows.readTwiceSpec.fn H ([d0] ++ []) = { results := [.lit (.bool true)], args := [d0] } := by simp [Rows.readTwiceSpec]
  refine (lawTwice l A c W hS hl (errV_of_laid hL)).mono fun e W' ⟨he, hB⟩ => ?_
  subst he
  have hlt : ∀ x ∈ p, x.block < W.heap.size := fun x hx => hW'.lt x (by simp [hx])
  refine ⟨_, rfl, ?_⟩
  show Rows.readTwiceSpec.post enc Tryz.prog Tryz.f8 false true false false W #[.slice A l.length c] (.bool true) W'
  refine ⟨_, _, _, [], p, [], hW', ?_, ?_, ?_, hB.frame _, fun h => by cases h⟩
  · rw [e1]; exact trodAll_mk1 (shut_bool Tryz.underlying4 true)
  · rw [e1]
    exact trodAll_mk1 (Below.trod laidOutOk (by kernel_rfl) (of_decide_eq_true (by kernel_rfl)) h0 hB hlt)
  · rw [e1]; rfl
theorem twice_holds : Rows.ReadTwiceUptoSaid :=
  OpenClaim.holds_of_cond 8 Tryz.f8 rfl rfl rfl rfl rfl rfl rfl ⟨rfl, rfl, rfl, rfl, rfl⟩ rfl rfl rfl rfl rfl (by kernel_rfl) Tryz.func8 twice_facts
    (of_decide_eq_true (by kernel_rfl)) (by unfold Func.isWrapper; rw [if_neg (of_decide_eq_false (by kernel_rfl))]; exact ⟨rfl, rfl⟩)
    (fun os started H enc _ F => by rw [OpenClaim.pre_eq_preRow]; exact twice_lifted os started H enc F)
theorem twice_card : Rows.ReadTwiceUptoCardSaid :=
  Claim7.holds_tied_plain_at .later [] [.data, .data, .data, .data, .sentinel, .sentinel, .pinned] true (true, "6fd15b69167aceba847cfc2b1fd3d633e9b2f182d600dd04e3c3551af8e5c480") true
    twice_holds (fun _ h => by cases h) (by kernel_rfl) (fun _ h => by cases h) readTwiceUpto_row_tie rfl ⟨rfl, rfl⟩ (by kernel_rfl) rfl
    (fun f fn hf hfn => by
      obtain rfl : f = 8 := Option.some.inj ((show Tryz.prog.funcNamed "plait/plaitlaw5.ReadTwice" = some 8 by kernel_rfl).symm.trans hf) |>.symm
      obtain rfl : fn = Tryz.f8 := (Option.some.inj (Tryz.func8.symm.trans hfn)).symm
      exact ⟨by kernel_rfl, fun j t ht => by
        rw [Tryz.params8] at ht
        have h3 : t = 55 := by
          rcases j with _ | j
          · simpa using ht.symm
          · simp at ht
        subst h3
        exact (show Tryz.prog.wantsStandIn 55 = false by kernel_rfl)⟩)
    (by kernel_rfl)
#print axioms twice_card
end Go.Proofs.YthhnhbpmpdminaaGreatDoor
