/-
The law ReadMany: what is given of its numbers. Conditions: none.
-/
import Derived.Test.YthhnhbpmpdminaaGreatDoorAxt
import Derived.Test.YthhnhbpmpdminaaGreatDoorAm
namespace Go.Proofs.YthhnhbpmpdminaaGreatDoor
namespace Ab
open Go.RowKit
set_option maxRecDepth 100000

/-- Place of both unknown values: the first one's number among 20, the second one's among m. -/
def placeM (wide : Bool) (m j : Nat) : List AVal → AHeap → Option (AVal × AHeap) := fun args H =>
  match args with
  | [.unk i, .int .i64 (.ofNat n)] => match i with
    | 0 => bif Nat.beq n 20 then some (bif wide then .lin .i64 1 0 1 19 else .int .i64 0, H) else none
    | 1 => bif Nat.beq n m then some (.int .i64 (.ofNat j), H) else none
    | _ => none
  | _ => none
/-- What the numbers are. -/
structure MOk (C : Ctx) (wide : Bool) (m j : Nat) (s k : Int) : Prop where
  u0 : C.u 0 = .int .i64 s
  u1 : C.u 1 = .int .i64 k
  w : C.w = plV s 20
  wide : bif wide then plV s 20 ≠ 0 else plV s 20 = 0
  hm : 0 < m ∧ m ≤ 1000000
  hj : plV k m = j
theorem placeM_ok {C0 : Ctx} {wide : Bool} {m j : Nat} {s k : Int} (h : MOk C0 wide m j s k) : ExtOk Tryz.prog C0 39 (placeM wide m j) := by
  refine ext_of Tryz.func39 (by kernel_rfl) (by kernel_rfl) fun args H r hg => ?_
  unfold placeM at hg
  split at hg
  · rename_i i n
    have two : ∀ {C : Ctx} {args' : Array Value}, C0.Le C → VRs C [.unk i, .int .i64 (.ofNat n)] args'.toList → args' = #[C0.u i, .int .i64 (n : Int)] := by
      intro C args' hle ha
      obtain ⟨al⟩ := args'
      cases ha with
      | cons _ y _ l' hx ht =>
        cases ht with
        | cons _ z _ l'' hz ht =>
          cases ht
          cases hz
          cases hx with
          | unk => rw [hle.u]; rfl
    split at hg
    · cases hc : Nat.beq n 20 with
      | false => rw [hc] at hg; cases hg
      | true =>
        rw [hc] at hg; simp only [cond_true, Option.some.injEq] at hg; subst hg
        have e := Nat.eq_of_beq_eq_true hc
        subst e
        refine ⟨rfl, fun C W args' hle ha => ?_⟩
        rw [two hle ha, h.u0]
        refine (place_val s 20 W (by omega) (by omega)).mono fun e W' ⟨he, hW⟩ => ⟨_, he, by rw [hW]; exact .refl _ _, fun D hD => ?_⟩
        have hDw : D.w = plV s 20 := by rw [hD.w, hle.w, h.w]
        have hr := plV_range s 20 (by omega)
        have hw := h.wide
        cases wide with
        | false =>
          simp only [cond_false] at hw ⊢
          rw [hw]; exact .int _ _
        | true =>
          simp only [cond_true] at hw ⊢
          have := VR.lin (C := D) .i64 1 0 1 19 (by rw [hDw]; omega) (by rw [hDw]; omega)
          rw [hDw, Int.one_mul, Int.add_zero] at this
          exact this
    · cases hc : Nat.beq n m with
      | false => rw [hc] at hg; cases hg
      | true =>
        rw [hc] at hg; simp only [cond_true, Option.some.injEq] at hg; subst hg
        have e := Nat.eq_of_beq_eq_true hc
        subst e
        refine ⟨rfl, fun C W args' hle ha => ?_⟩
        rw [two hle ha, h.u1]
        refine (place_val k n W h.hm.1 h.hm.2).mono fun e W' ⟨he, hW⟩ => ⟨_, he, by rw [hW]; exact .refl _ _, fun D hD => ?_⟩
        rw [h.hj]; exact .int _ _
    · cases hg
  · cases hg
noncomputable def SM (wide : Bool) (m j : Nat) : St where
  P := Tryz.prog
  ext f := match f with
    | 258 => some (flatG Tryz.prog Extern.BytealgIndexByte.indexByte)
    | 76 => some parseG
    | 96 => some opG
    | 68 => some nameG
    | 25 => some knownG
    | 39 => some (placeM wide m j)
    | _ => none
  glob _ := .top
theorem SM_fit {C : Ctx} {wide : Bool} {m j : Nat} {s k : Int} (h : MOk C wide m j s k) : Fit (SM wide m j) C := by
  refine ⟨(show Tryz.prog.follows .mixedOrders = true by kernel_rfl), fun g => .top _, fun f g hg => ?_, fun f fn hf hb => ?_⟩
  · unfold SM at hg
    simp only [] at hg
    split at hg
    · cases hg; exact indexR_ok
    · cases hg; exact parse_ok
    · cases hg; exact opG_ok
    · cases hg; exact nameG_ok
    · cases hg; exact knownG_ok
    · cases hg; exact placeM_ok h
    · cases hg
  · have h := Array.all_eq_true'.1 namesR_ok fn (Array.mem_of_getElem? hf)
    rw [hb] at h
    simpa using h
/-- Does the law's run tell true? -/
noncomputable def manyRun (wide : Bool) (m j : Nat) : Bool := match (fs (SM wide m j) 100000).call 9 [.unk 0, .unk 1] .empty with
  | some (.bool b, _) => b
  | _ => false
theorem many_of_run {wide : Bool} {m j : Nat} {s k : Int} (W : World) (hr : manyRun wide m j = true) (hw : bif wide then plV s 20 ≠ 0 else plV s 20 = 0) (hm : 0 < m ∧ m ≤ 1000000) (hj : plV k m = j) :
    Calls Tryz.prog 9 #[.int .i64 s, .int .i64 k] W fun e W' => e = .returned (.bool true) ∧ Below W.heap.size W W' := by
  unfold manyRun at hr
  split at hr
  · rename_i b H hb
    subst hr
    rw [fs_call] at hb
    have hfit : Fit (SM wide m j) (C0of W (plV s 20) (fun i => match i with | 0 => .int .i64 s | _ => .int .i64 k)) := SM_fit (s := s) (k := k) ⟨rfl, rfl, rfl, hw, hm, hj⟩
    refine (closed_anyU hfit (show (SM wide m j).P.funcs[9]? = some Tryz.f9 from Tryz.func9) rfl (args := [.unk 0, .unk 1]) (args' := #[.int .i64 s, .int .i64 k]) (.cons _ _ _ _ (.unk 0) (.cons _ _ _ _ (.unk 1) .nil)) hb).mono fun e W' ⟨v', C', he, hv, _, hB⟩ => ?_
    cases hv
    exact ⟨he, hB⟩
  · cases hr
end Ab
end Go.Proofs.YthhnhbpmpdminaaGreatDoor
