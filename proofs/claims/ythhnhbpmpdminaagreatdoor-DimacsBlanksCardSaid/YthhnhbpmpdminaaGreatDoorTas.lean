/-
errors.As at a pointer to *PlaceError; told. Conditions: errors.errorType holds the descriptor of error.
-/
import Derived.Test.YthhnhbpmpdminaaGreatDoorMem
import Derived.Test.YthhnhbpmpdminaaGreatDoorProg
import Derived.WalkKit
import Derived.BigQuiet
import Derived.Deep.QuietTactic
import Derived.Deep.LoopGhost
import Derived.Deep.DeepCutAuto
import Derived.Handy
namespace Go.Proofs.YthhnhbpmpdminaaGreatDoor
set_option maxRecDepth 4096
open Go.RowKit Go.Proofs.YthhnhbpmpdminaaGreatDoorW.PrintWords

theorem k69 (t : Nat) (ht : t = 87 ∨ t = 89) (w : World) : (callFunc 290 #[.pointer (some ⟨9, t, none⟩)]).run Tryz.prog w = .ok (.value (.int .u8 22)) w := by
  rcases ht with rfl | rfl <;> kernel_rfl
theorem k82 (w : World) : (callFunc 306 #[.agg #[.pointer (some ⟨9, 89, none⟩)]]).run Tryz.prog w = .ok (.value (.iface 182 (.agg #[.pointer (some ⟨9, 87, none⟩)]))) w := by kernel_rfl
theorem k83 (w : World) : (callFunc 307 #[.agg #[.pointer (some ⟨9, 87, none⟩)], .iface 182 (.agg #[.pointer (some ⟨9, 25, none⟩)])]).run Tryz.prog w = .ok (.value (.bool true)) w := by kernel_rfl
theorem k80 (w : World) : (callFunc 304 #[.agg #[.pointer (some ⟨9, 87, none⟩)], .iface 182 (.agg #[.pointer (some ⟨9, 87, none⟩)])]).run Tryz.prog w = .ok (.value (.bool true)) w := by kernel_rfl
theorem k48 (w : World) (v : Value) : (callFunc 108 #[.iface 87 v]).run Tryz.prog w = .ok (.value (.iface 182 (.agg #[.pointer (some ⟨9, 87, none⟩)]))) w := by kernel_rfl
theorem k41 (w : World) (a : Addr) : (callFunc 83 #[.agg #[.pointer (some ⟨9, 89, none⟩), .pointer (some a), .int .u64 150]]).run Tryz.prog w = .ok (.value (.iface 182 (.agg #[.pointer (some ⟨9, 89, none⟩)]))) w := by kernel_rfl
theorem k40 (w : World) (a : Addr) : (callFunc 82 #[.iface 89 (.pointer (some a))]).run Tryz.prog w = .ok (.value (.agg #[.pointer (some ⟨9, 89, none⟩), .pointer (some ⟨w.heap.size, 0, none⟩), .int .u64 150])) (w.alloc (.cells #[.pointer (some a)] 89)) := by kernel_rfl
theorem k40e (w : World) (a : Addr) : (callFunc 82 #[.iface 87 (.pointer (some a))]).run Tryz.prog w = .ok (.value (.agg #[.pointer (some ⟨9, 87, none⟩), .pointer (some ⟨w.heap.size, 0, none⟩), .int .u64 150])) (w.alloc (.cells #[.pointer (some a)] 87)) := by kernel_rfl
theorem parts63 (w : World) (a : Addr) : (Extern.ReflectliteValue.parts (.agg #[.pointer (some ⟨9, 89, none⟩), .pointer (some a), .int .u64 150])).run Tryz.prog w = .ok (some (89, a, 150)) w := by kernel_rfl
theorem parts61 (w : World) (a : Addr) (n : Int) (hn : n = 150 ∨ n = 406) : (Extern.ReflectliteValue.parts (.agg #[.pointer (some ⟨9, 87, none⟩), .pointer (some a), .int .u64 n])).run Tryz.prog w = .ok (some (87, a, n.toNat)) w := by rcases hn with rfl | rfl <;> kernel_rfl
theorem load63 (t : Nat) (ht : t = 87 ∨ t = 89) (w : World) (a : Addr) (v : Value) (h : w.cell? a = some v) : (loadVar t a).run Tryz.prog w = .ok v w := by
  rcases ht with rfl | rfl <;> simp [go_sem, h]
theorem method_one (z : Sem Value) (f : TypeId → Addr → Nat → Nat → Sem Value) (v : Value) : Extern.ReflectliteValue.method z f #[v] = (do match ← Extern.ReflectliteValue.parts v with | none => z | some (t, a, fl) => f t a fl (fl % 32)) := rfl
theorem k42 (w : World) (a p : Addr) (h : w.cell? a = some (.pointer (some p))) : (callFunc 84 #[.agg #[.pointer (some ⟨9, 89, none⟩), .pointer (some a), .int .u64 150]]).run Tryz.prog w = .ok (.value (.bool false)) w := by
  rw [run_callFunc_extern Tryz.func84 (by kernel_rfl) (by kernel_rfl) (by kernel_rfl) (e := Extern.ReflectliteValue.method (Extern.ReflectliteValue.valueError "reflectlite.Value.IsNil" 0) Extern.ReflectliteValue.isNil) (by kernel_rfl), method_one, Sem.run_bind, parts63]
  simp only [Result.andThen_ok]
  show (((loadVar 89 a >>= _ : Sem Value)).run Tryz.prog w).andThen _ = _
  rw [Sem.run_bind, load63 89 (.inr rfl) w a _ h]
  rfl
theorem k49 (w : World) (a p : Addr) (h : w.cell? a = some (.pointer (some p))) : (callFunc 109 #[.agg #[.pointer (some ⟨9, 89, none⟩), .pointer (some a), .int .u64 150]]).run Tryz.prog w = .ok (.value (.agg #[.pointer (some ⟨9, 87, none⟩), .pointer (some p), .int .u64 406])) w := by
  rw [run_callFunc_extern Tryz.func109 (by kernel_rfl) (by kernel_rfl) (by kernel_rfl) (e := Extern.ReflectliteValue.method (Extern.ReflectliteValue.valueError "reflectlite.Value.Elem" 0) Extern.ReflectliteValue.elem) (by kernel_rfl), method_one, Sem.run_bind, parts63]
  simp only [Result.andThen_ok]
  show (((loadVar 89 a >>= _ : Sem Value)).run Tryz.prog w).andThen _ = _
  rw [Sem.run_bind, load63 89 (.inr rfl) w a _ h]
  kernel_rfl

theorem store61 (w : World) (a b : Addr) (u : Value) (hc : w.cell? a = some u) (hf : w.frozen? a = false) : (storeVar 87 a (.pointer (some b))).run Tryz.prog w = .ok () (w.setCell a (.pointer (some b))) := by
  simp [go_sem, hc, hf]
theorem k50 (w : World) (a2 p b : Addr) (u : Value) (h2 : w.cell? a2 = some (.pointer (some b))) (hc : w.cell? p = some u) (hf : w.frozen? p = false) :
    (callFunc 110 #[.agg #[.pointer (some ⟨9, 87, none⟩), .pointer (some p), .int .u64 406], .agg #[.pointer (some ⟨9, 87, none⟩), .pointer (some a2), .int .u64 150]]).run Tryz.prog w = .ok (.value (.tuple #[])) (w.setCell p (.pointer (some b))) := by
  rw [run_callFunc_extern Tryz.func110 (by kernel_rfl) (by kernel_rfl) (by kernel_rfl) (e := Extern.ReflectliteValue.set) (by kernel_rfl)]
  show (((Extern.ReflectliteValue.parts (.agg #[.pointer (some ⟨9, 87, none⟩), .pointer (some p), .int .u64 406]) >>= fun pv => Extern.ReflectliteValue.parts (.agg #[.pointer (some ⟨9, 87, none⟩), .pointer (some a2), .int .u64 150]) >>= _ : Sem Value)).run Tryz.prog w).andThen _ = _
  rw [Sem.run_bind, parts61 w p 406 (.inr rfl)]
  simp only [Result.andThen_ok]
  rw [Sem.run_bind, parts61 w a2 150 (.inl rfl)]
  simp only [Result.andThen_ok]
  show (((loadVar 87 a2 >>= _ : Sem Value)).run Tryz.prog w).andThen _ = _
  rw [Sem.run_bind, load63 87 (.inl rfl) w a2 _ h2]
  simp only [Result.andThen_ok]
  rw [Sem.run_bind, show (Extern.Rtype.directlyAssignable 87 87).run Tryz.prog w = .ok true w from by kernel_rfl]
  simp only [Result.andThen_ok]
  show (((storeVar 87 p (.pointer (some b)) >>= _ : Sem Value)).run Tryz.prog w).andThen _ = _
  rw [Sem.run_bind, store61 w p b u hc hf]
  rfl
/-- errors.errorType as it is laid. -/
def EV (w : World) : Prop := w.cell? ⟨0, 0, none⟩ = some (.iface 182 (.agg #[.pointer (some ⟨9, 25, none⟩)]))

set_option maxHeartbeats 1000000 in
theorem as_any (b fa a1 : Nat) (u : Value) (l : List Value) (w : World) (h1 : w.cell? ⟨a1, 0, none⟩ = some (.pointer (some ⟨fa, 0, none⟩))) (hf : Cells w fa 87 (u :: l)) :
    Calls Tryz.prog 85 #[.iface 87 (.pointer (some ⟨b, 0, none⟩)), .iface 89 (.pointer (some ⟨fa, 0, none⟩)), .agg #[.pointer (some ⟨9, 89, none⟩), .pointer (some ⟨a1, 0, none⟩), .int .u64 150], .iface 182 (.agg #[.pointer (some ⟨9, 87, none⟩)])] w
      fun e w' => e = .returned (.bool true) ∧ Cells w' fa 87 (.pointer (some ⟨b, 0, none⟩) :: l) ∧ Mod (fun k => k = fa) w w' := by
  have hl := hf.lt
  have hl1 : a1 < w.heap.size := World.block_lt_of_cell? w _ h1
  have j48 := k48
  have j80 := k80
  have j40 := k40e
  have j49 := fun W h => k49 W ⟨a1, 0, none⟩ ⟨fa, 0, none⟩ h
  have hc := hf.cell 0 _ rfl
  have hz := hf.frozen 0
  have HF := Aside0.mk hf
  clear hf
  go_enter Tryz.func85, Tryz.ntmps85
  go_wp2_with fail
  refine wp_loop_rounds 1 ?_
  rw [rounds_succ]
  go_wp2_with fail
  rw [k50 _ _ _ ⟨b, 0, none⟩ u (by go_simp) (by go_simp) (by go_simp)]
  go_wp2_with fail
  go_returns
  exact ⟨rfl, ((HF.out.set 0 _).alloc _).alloc _, ((Mod.setCell (p := ⟨fa, 0, none⟩) (Mod.refl (fun k => k = fa) w) (.inl rfl) _).alloc _).alloc _⟩

set_option maxHeartbeats 2000000 in
theorem As_any (b fa : Nat) (u : Value) (l : List Value) (w : World) (hf : Cells w fa 87 (u :: l)) (hE : EV w) :
    Calls Tryz.prog 49 #[.iface 87 (.pointer (some ⟨b, 0, none⟩)), .iface 89 (.pointer (some ⟨fa, 0, none⟩))] w
      fun e w' => e = .returned (.bool true) ∧ Cells w' fa 87 (.pointer (some ⟨b, 0, none⟩) :: l) ∧ Mod (fun k => k = fa) w w' := by
  have hl := hf.lt
  have h40 := k40
  have h41 := k41
  have h42 := fun W a h => k42 W a ⟨fa, 0, none⟩ h
  have h69 := k69 87 (.inl rfl)
  have h69' := k69 89 (.inr rfl)
  have h82 := k82
  have h83 := k83
  have he : w.cell? ⟨0, 0, none⟩ = some (.iface 182 (.agg #[.pointer (some ⟨9, 25, none⟩)])) := hE
  have hel : 0 < w.heap.size := World.block_lt_of_cell? w _ he
  have HF := Aside0.mk hf
  clear hf hE
  go_enter Tryz.func49, Tryz.ntmps49
  go_wp2_with fail
  have hc1 : ((w.alloc (.cells #[.pointer (some ⟨fa, 0, none⟩)] 89)).alloc (.cells #[.pointer (some ⟨9, 89, none⟩), .pointer (some ⟨w.heap.size, 0, none⟩), .int .u64 150] 150)).cell? ⟨w.heap.size, 0, none⟩ = some (.pointer (some ⟨fa, 0, none⟩)) :=
    ((Cells.new w 89 [.pointer (some ⟨fa, 0, none⟩)]).alloc _).cell 0 _ rfl
  refine (as_any b fa w.heap.size u l _ hc1 ((HF.out.alloc _).alloc _)).mono ?_
  rintro e w1 ⟨rfl, hf1, hm1⟩
  have HM := Aside0.mk hm1
  have HF1 := Aside0.mk hf1
  clear hm1 hf1 hc1 h40 h41 h42 h69 h69' h82 h83
  go_wp2_with fail
  go_returns
  exact ⟨rfl, HF1.out, (((Mod.refl (fun k => k = fa) w).alloc _).alloc _).trans HM.out⟩

end Go.Proofs.YthhnhbpmpdminaaGreatDoor
