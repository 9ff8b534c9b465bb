/-
What is given to the abstract run: functions without a body, errors.As, laid tables. Conditions: what the world lays.
-/
import Derived.Test.YthhnhbpmpdminaaGreatDoorAm
import Derived.Test.YthhnhbpmpdminaaGreatDoorTas
namespace Go.Proofs.YthhnhbpmpdminaaGreatDoor
namespace Ab
open Go.RowKit
set_option maxRecDepth 4096

/-- errors.As: the pointer is laid where the second operand points. -/
def asG (pe ppe : Nat) : List AVal → AHeap → Option (AVal × AHeap) := fun args H =>
  match args with
  | [.iface t (.ptr (some (b, 0))), .iface u (.ptr (some (fa, 0)))] => bif Nat.beq t pe && Nat.beq u ppe then match H.get fa with
      | some (.cells ct row (_ :: l)) => bif Nat.beq ct pe then some (.bool true, H.put fa (.cells ct row (.ptr (some (b, 0)) :: l))) else none
      | _ => none
    else none
  | _ => none
theorem enter_as (args : Array Value) (W : World) : (callFunc 49 args).run Tryz.prog W = .ok (.enter 49 args) W := by
  have h : Tryz.prog.funcs[49]? = some Tryz.f49 := Tryz.func49
  have hn : Tryz.f49.name ≠ "runtime.NumGoroutine" := by decide
  have hb : ∃ c, Tryz.f49.body = some c := ⟨_, rfl⟩
  obtain ⟨c, hb⟩ := hb
  simp [callFunc, h, hn, hb]
theorem as_ok {C0 : Ctx} (hE : C0.cell 0 0 = some (.iface 182 (.agg #[.pointer (some ⟨9, 25, none⟩)]))) : ExtOk Tryz.prog C0 49 (asG 87 89) := by
  intro args H v H' h q C W args' h0 hR ha
  unfold asG at h
  split at h
  · rename_i t b u fa
    cases hc : (Nat.beq t 87 && Nat.beq u 89) with
    | false => rw [hc] at h; cases h
    | true =>
      rw [hc] at h; simp only [cond_true] at h
      simp only [Bool.and_eq_true] at hc
      obtain rfl := Nat.eq_of_beq_eq_true hc.1
      obtain rfl := Nat.eq_of_beq_eq_true hc.2
      split at h
      · rename_i ct row x l hb
        cases hct : Nat.beq ct 87 with
        | false => rw [hct] at h; cases h
        | true =>
          rw [hct] at h; simp only [cond_true, Option.some.injEq, Prod.mk.injEq] at h
          obtain ⟨rfl, rfl⟩ := h
          obtain rfl := Nat.eq_of_beq_eq_true hct
          obtain ⟨al⟩ := args'
          cases ha with
          | cons _ v1 _ l1 hv1 ht1 =>
            cases ht1 with
            | cons _ v2 _ l2 hv2 ht2 =>
              cases ht2
              cases hv1 with
              | iface _ _ p1 hp1 =>
                cases hv2 with
                | iface _ _ p2 hp2 =>
                  cases hp1 with
                  | ptr _ _ kb rcb hφb =>
                    cases hp2 with
                    | ptr _ _ k rc hφ =>
                      obtain ⟨c, hck, hcv, hcs, hrow⟩ := cells_of hR hb hφ
                      obtain ⟨cl⟩ := c
                      match cl, hcv, hcs, hck, hrow with
                      | [], hcv, hcs, _, _ => simp at hcs
                      | y :: l', hcv, hcs, hck, hrow =>
                        have hev : EV W := by
                          have := h0.cell hE
                          unfold Ctx.cell at this
                          unfold EV World.cell?
                          cases hi : C.imm 0 with
                          | none => rw [hi] at this; cases this
                          | some o =>
                            rw [hi] at this
                            rw [hR.imm _ _ hi]
                            cases o <;> first | (cases this; done) | simpa using this
                        refine .inr ⟨enter_as _ W, (As_any kb k y l' W hck hev).mono fun e W' ⟨he, hc', hm⟩ => ⟨.bool true, he, C, .refl C, .bool true, ?_⟩⟩
                        have hup : Upd W W' k (.cells (.pointer (some ⟨kb, 0, none⟩) :: l').toArray 87 (0, 0)) :=
                          ⟨hm.os, hm.tape, hm.output, hc', fun j hj hlt => hm.keep j hlt hj⟩
                        refine hR.put hb hφ hup ⟨_, rfl, ?_, fun hr => ?_⟩
                        · simp only [List.length_cons, List.take_succ_cons] at hcv ⊢
                          cases hcv with
                          | cons _ _ _ _ _ ht => exact .cons _ _ _ _ (.ptr _ _ _ _ hφb) ht
                        · simpa using hrow hr
      · cases h
  · cases h

/-- What is given. -/
noncomputable def SK : St where
  P := Tryz.prog
  ext f := match f with
    | 211 => some (flatG Tryz.prog Extern.BytealgCount.count)
    | 258 => some (flatG Tryz.prog Extern.BytealgIndexByte.indexByte)
    | 111 => some sameG
    | 49 => some (asG 87 89)
    | _ => none
  glob g := match g with
    | 1 => .rp ((List.range 20).map fun n => .int .u64 (Int.ofNat (10 ^ n)))
    | _ => .top
theorem count_ok {C0 : Ctx} : ExtOk Tryz.prog C0 211 (flatG Tryz.prog Extern.BytealgCount.count) :=
  flat_ok Tryz.func211 (by kernel_rfl) (by kernel_rfl) (by kernel_rfl) (by kernel_rfl)
theorem index_ok {C0 : Ctx} : ExtOk Tryz.prog C0 258 (flatG Tryz.prog Extern.BytealgIndexByte.indexByte) :=
  flat_ok Tryz.func258 (by kernel_rfl) (by kernel_rfl) (by kernel_rfl) (by kernel_rfl)
theorem noesc_ok {C0 : Ctx} : ExtOk Tryz.prog C0 111 sameG :=
  same_ok Tryz.func111 (by kernel_rfl) (by kernel_rfl) (by kernel_rfl) (e := Extern.AbiNoEscape.same) (by kernel_rfl) (fun _ _ => rfl)
end Ab
end Go.Proofs.YthhnhbpmpdminaaGreatDoor
