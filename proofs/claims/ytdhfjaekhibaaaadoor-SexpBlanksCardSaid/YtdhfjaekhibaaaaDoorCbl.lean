/-
The statement SexpBlanks, proved: its row, then its tied card. Conditions: none beyond the statement.
-/
import Derived.Test.YtdhfjaekhibaaaaDoorLbl
import Derived.Test.YtdhfjaekhibaaaaDoorRow
import Derived.Test.YtdhfjaekhibaaaaDoorOpx
import Derived.Test.YtdhfjaekhibaaaaDoorTie
import Derived.Test.YtdhfjaekhibaaaaDoorCards
import Derived.SevenTiedAt
namespace Go.Proofs.YtdhfjaekhibaaaaDoor
set_option maxRecDepth 4096
open Go.ChangeShapes Go.WideShapes Go.RowKit

theorem laidOutOk : laidOutB Tryd.prog = true := by kernel_rfl

set_option maxRecDepth 100000 in
theorem blanks_lifted (os : Os) (started : os.Started) (H : Type) (enc : TypeId × Value → H) :
    ReturnsInHanded {} Tryd.checked os 6 .any (fun w args => (Rows.sexpBlanksSpec.pre enc Tryd.prog Tryd.f6 [] false w args ∧ laidMetH Tryd.prog [("errors.errorType", Rows.laid_errors_errorType)] w) ∧ sizedMet enc Tryd.prog Tryd.f6 (OpenSpec.ofChange Rows.sexpBlanksSpec) false w args)
      (Rows.sexpBlanksSpec.post enc Tryd.prog Tryd.f6 false true false false) := by
  refine returnsInHanded_of_change_and (C := Tryd.checked) (X := fun w _ => laidMetH Tryd.prog [("errors.errorType", Rows.laid_errors_errorType)] w) (fun _ _ _ hh h => h.of_heap hh) rowOwn started (by kernel_rfl) Tryd.func6
    (ChangeSpec.witness_at (enc := enc) (C := Tryd.checked) (os := os) (X := fun w _ => laidMetH Tryd.prog [("errors.errorType", Rows.laid_errors_errorType)] w) false (laidWorld os) #[.slice none 0 0, .int .i64 0] 8 rfl (by kernel_rfl) (by kernel_rfl) (by kernel_rfl) (by kernel_rfl) (by kernel_rfl) (laidWorld_met os _)) ?_
  intro W base args ds gs before hval0 hW _ _ hL _
  have hval : ∀ (j : Nat) t v, Tryd.f6.params[j]? = some t → args[j]? = some v → Value.okWide Tryd.prog W .any base t v := hval0
  have hW' := hW
  obtain ⟨p, q, hA0, hV0, rfl, hfz, hnd⟩ := hW
  have hA : DataW.TrodAll enc Tryd.prog W 0 (fun _ => true) true Tryd.f6.params.toList args.toList ds p := hA0
  have hV : DataW.TrodVars enc Tryd.prog W (fun _ => true) [] gs q := hV0
  rw [Tryd.params6] at hA hval
  obtain ⟨v0, v1, d0, d1, p0, p1, rfl, rfl, rfl, h0, h1⟩ := trodAll_two hA
  obtain ⟨n, rfl, rfl, rfl, hwn⟩ := open_int Tryd.underlying3 (hval 1 3 v1 rfl rfl) h1
  obtain ⟨A0, n0, c0, rfl⟩ := okWide_slice Tryd.underlying23 (hval 0 23 v0 rfl rfl)
  obtain ⟨fuel, hfu⟩ := id h0
  obtain ⟨L, A, c, hse, hLc, hcm, hRL⟩ := trees_of fuel _ _ hfu
  have hse2 : Value.slice A0 n0 c0 = .slice A L.length c := by simpa [Value.cells] using hse
  rw [hse2] at hA0 hA hval hval0 h0 hW' ⊢
  obtain ⟨rfl, rfl⟩ : gs = [] ∧ q = [] := by
    cases gs with
    | nil => exact ⟨rfl, hV⟩
    | cons g r => exact absurd hV (by intro h; cases h)
  have e1 : Rows.sexpBlanksSpec.fn H ([d0, .lit (.int .i64 n)] ++ []) = { results := [.lit (.bool true)], args := [d0, .lit (.int .i64 n)] } := by simp [Rows.sexpBlanksSpec]
  refine (lawBlanks L A c n W (bounds_i64 hwn) (by omega) hRL (ev_of_laid hL)).mono fun e W' ⟨he, hB⟩ => ?_
  subst he
  have hlt : ∀ x ∈ p0, x.block < W.heap.size := fun x hx => hW'.lt x (by simp [hx])
  refine ⟨_, rfl, _, _, _, [], p0, [], hW', ?_, ?_, ?_, hB.frame _, fun h => by cases h⟩
  · rw [e1]; exact trodAll_mk1 (shut_bool Tryd.underlying4 true)
  · rw [e1]
    have := trodAll_mk2 (Below.trod laidOutOk (by kernel_rfl) (of_decide_eq_true (by kernel_rfl)) h0 hB hlt) (shut_int (w := W') (base := 0) (enc := enc) Tryd.underlying3 hwn)
    rw [List.append_nil] at this
    exact this
  · rw [e1]; rfl

theorem blanks_holds : Rows.SexpBlanksSaid :=
  OpenClaim.holds_of_wide 6 Tryd.f6 rfl rfl rfl rfl rfl rfl rfl ⟨rfl, rfl, rfl, rfl, rfl⟩ rfl rfl rfl rfl rfl (by kernel_rfl) Tryd.func6 (by kernel_rfl)
    (of_decide_eq_true (by kernel_rfl)) (by unfold Func.isWrapper; rw [if_neg (of_decide_eq_false (by kernel_rfl))]; exact ⟨rfl, rfl⟩)
    (fun os started H enc _ => blanks_lifted os started H enc)

theorem blanks_card : Rows.SexpBlanksCardSaid :=
  Claim7.holds_tied_plain_at .later [] [.handle] true (true, "dba8753287c15b3f193015f965e056d23f8f559edab030cf80aa6a873d6756cb") true
    blanks_holds (fun _ h => by cases h) (by kernel_rfl) (fun _ h => by cases h) sexpBlanks_row_tie rfl ⟨rfl, rfl⟩ (by kernel_rfl) rfl
    (fun f fn hf hfn => by
      obtain rfl : f = 6 := Option.some.inj ((show Tryd.prog.funcNamed "plait/plaitlaw2.SexpBlanks" = some 6 by kernel_rfl).symm.trans hf) |>.symm
      obtain rfl : fn = Tryd.f6 := (Option.some.inj (Tryd.func6.symm.trans hfn)).symm
      exact ⟨by kernel_rfl, fun j t ht => by
        rw [Tryd.params6] at ht
        have h3 : t = 3 ∨ t = 23 := by
          rcases j with _ | _ | j
          · exact .inr (by simpa using ht.symm)
          · exact .inl (by simpa using ht.symm)
          · simp at ht
        rcases h3 with rfl | rfl
        · exact (show Tryd.prog.wantsStandIn 3 = false by kernel_rfl)
        · exact (show Tryd.prog.wantsStandIn 23 = false by kernel_rfl)⟩)
    (by kernel_rfl)
#print axioms blanks_card
end Go.Proofs.YtdhfjaekhibaaaaDoor
