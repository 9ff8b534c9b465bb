/-
errors.As at a pointer to *PlaceError; told. Conditions: errors.errorType holds the descriptor of error.
-/
import Derived.Test.YtdhfjaekhibaaaaDoorPrs
namespace Go.Proofs.YtdhfjaekhibaaaaDoor
set_option maxRecDepth 4096
open Go.RowKit Go.Proofs.YtdhfjaekhibaaaaDoorW.PrintWords

theorem k69 (t : Nat) (ht : t = 61 ∨ t = 63) (w : World) : (callFunc 69 #[.pointer (some ⟨2, t, none⟩)]).run Tryd.prog w = .ok (.value (.int .u8 22)) w := by
  rcases ht with rfl | rfl <;> kernel_rfl
theorem k82 (w : World) : (callFunc 82 #[.agg #[.pointer (some ⟨2, 63, none⟩)]]).run Tryd.prog w = .ok (.value (.iface 93 (.agg #[.pointer (some ⟨2, 61, none⟩)]))) w := by kernel_rfl
theorem k83 (w : World) : (callFunc 83 #[.agg #[.pointer (some ⟨2, 61, none⟩)], .iface 93 (.agg #[.pointer (some ⟨2, 25, none⟩)])]).run Tryd.prog w = .ok (.value (.bool true)) w := by kernel_rfl
theorem k80 (w : World) : (callFunc 80 #[.agg #[.pointer (some ⟨2, 61, none⟩)], .iface 93 (.agg #[.pointer (some ⟨2, 61, none⟩)])]).run Tryd.prog w = .ok (.value (.bool true)) w := by kernel_rfl
theorem k48 (w : World) (v : Value) : (callFunc 48 #[.iface 61 v]).run Tryd.prog w = .ok (.value (.iface 93 (.agg #[.pointer (some ⟨2, 61, none⟩)]))) w := by kernel_rfl
theorem k41 (w : World) (a : Addr) : (callFunc 41 #[.agg #[.pointer (some ⟨2, 63, none⟩), .pointer (some a), .int .u64 150]]).run Tryd.prog w = .ok (.value (.iface 93 (.agg #[.pointer (some ⟨2, 63, none⟩)]))) w := by kernel_rfl
theorem k40 (w : World) (a : Addr) : (callFunc 40 #[.iface 63 (.pointer (some a))]).run Tryd.prog w = .ok (.value (.agg #[.pointer (some ⟨2, 63, none⟩), .pointer (some ⟨w.heap.size, 0, none⟩), .int .u64 150])) (w.alloc (.cells #[.pointer (some a)] 63)) := by kernel_rfl
theorem k40e (w : World) (a : Addr) : (callFunc 40 #[.iface 61 (.pointer (some a))]).run Tryd.prog w = .ok (.value (.agg #[.pointer (some ⟨2, 61, none⟩), .pointer (some ⟨w.heap.size, 0, none⟩), .int .u64 150])) (w.alloc (.cells #[.pointer (some a)] 61)) := by kernel_rfl
theorem parts63 (w : World) (a : Addr) : (Extern.ReflectliteValue.parts (.agg #[.pointer (some ⟨2, 63, none⟩), .pointer (some a), .int .u64 150])).run Tryd.prog w = .ok (some (63, a, 150)) w := by kernel_rfl
theorem parts61 (w : World) (a : Addr) (n : Int) (hn : n = 150 ∨ n = 406) : (Extern.ReflectliteValue.parts (.agg #[.pointer (some ⟨2, 61, none⟩), .pointer (some a), .int .u64 n])).run Tryd.prog w = .ok (some (61, a, n.toNat)) w := by rcases hn with rfl | rfl <;> kernel_rfl
theorem load63 (t : Nat) (ht : t = 61 ∨ t = 63) (w : World) (a : Addr) (v : Value) (h : w.cell? a = some v) : (loadVar t a).run Tryd.prog w = .ok v w := by
  rcases ht with rfl | rfl <;> simp [go_sem, h]
theorem method_one (z : Sem Value) (f : TypeId → Addr → Nat → Nat → Sem Value) (v : Value) : Extern.ReflectliteValue.method z f #[v] = (do match ← Extern.ReflectliteValue.parts v with | none => z | some (t, a, fl) => f t a fl (fl % 32)) := rfl
theorem k42 (w : World) (a p : Addr) (h : w.cell? a = some (.pointer (some p))) : (callFunc 42 #[.agg #[.pointer (some ⟨2, 63, none⟩), .pointer (some a), .int .u64 150]]).run Tryd.prog w = .ok (.value (.bool false)) w := by
  rw [run_callFunc_extern Tryd.func42 (by kernel_rfl) (by kernel_rfl) (by kernel_rfl) (e := Extern.ReflectliteValue.method (Extern.ReflectliteValue.valueError "reflectlite.Value.IsNil" 0) Extern.ReflectliteValue.isNil) (by kernel_rfl), method_one, Sem.run_bind, parts63]
  simp only [Result.andThen_ok]
  show (((loadVar 63 a >>= _ : Sem Value)).run Tryd.prog w).andThen _ = _
  rw [Sem.run_bind, load63 63 (.inr rfl) w a _ h]
  rfl
theorem k49 (w : World) (a p : Addr) (h : w.cell? a = some (.pointer (some p))) : (callFunc 49 #[.agg #[.pointer (some ⟨2, 63, none⟩), .pointer (some a), .int .u64 150]]).run Tryd.prog w = .ok (.value (.agg #[.pointer (some ⟨2, 61, none⟩), .pointer (some p), .int .u64 406])) w := by
  rw [run_callFunc_extern Tryd.func49 (by kernel_rfl) (by kernel_rfl) (by kernel_rfl) (e := Extern.ReflectliteValue.method (Extern.ReflectliteValue.valueError "reflectlite.Value.Elem" 0) Extern.ReflectliteValue.elem) (by kernel_rfl), method_one, Sem.run_bind, parts63]
  simp only [Result.andThen_ok]
  show (((loadVar 63 a >>= _ : Sem Value)).run Tryd.prog w).andThen _ = _
  rw [Sem.run_bind, load63 63 (.inr rfl) w a _ h]
  kernel_rfl

theorem store61 (w : World) (a b : Addr) (u : Value) (hc : w.cell? a = some u) (hf : w.frozen? a = false) : (storeVar 61 a (.pointer (some b))).run Tryd.prog w = .ok () (w.setCell a (.pointer (some b))) := by
  simp [go_sem, hc, hf]
theorem k50 (w : World) (a2 p b : Addr) (u : Value) (h2 : w.cell? a2 = some (.pointer (some b))) (hc : w.cell? p = some u) (hf : w.frozen? p = false) :
    (callFunc 50 #[.agg #[.pointer (some ⟨2, 61, none⟩), .pointer (some p), .int .u64 406], .agg #[.pointer (some ⟨2, 61, none⟩), .pointer (some a2), .int .u64 150]]).run Tryd.prog w = .ok (.value (.tuple #[])) (w.setCell p (.pointer (some b))) := by
  rw [run_callFunc_extern Tryd.func50 (by kernel_rfl) (by kernel_rfl) (by kernel_rfl) (e := Extern.ReflectliteValue.set) (by kernel_rfl)]
  show (((Extern.ReflectliteValue.parts (.agg #[.pointer (some ⟨2, 61, none⟩), .pointer (some p), .int .u64 406]) >>= fun pv => Extern.ReflectliteValue.parts (.agg #[.pointer (some ⟨2, 61, none⟩), .pointer (some a2), .int .u64 150]) >>= _ : Sem Value)).run Tryd.prog w).andThen _ = _
  rw [Sem.run_bind, parts61 w p 406 (.inr rfl)]
  simp only [Result.andThen_ok]
  rw [Sem.run_bind, parts61 w a2 150 (.inl rfl)]
  simp only [Result.andThen_ok]
  show (((loadVar 61 a2 >>= _ : Sem Value)).run Tryd.prog w).andThen _ = _
  rw [Sem.run_bind, load63 61 (.inl rfl) w a2 _ h2]
  simp only [Result.andThen_ok]
  rw [Sem.run_bind, show (Extern.Rtype.directlyAssignable 61 61).run Tryd.prog w = .ok true w from by kernel_rfl]
  simp only [Result.andThen_ok]
  show (((storeVar 61 p (.pointer (some b)) >>= _ : Sem Value)).run Tryd.prog w).andThen _ = _
  rw [Sem.run_bind, store61 w p b u hc hf]
  rfl
end Go.Proofs.YtdhfjaekhibaaaaDoor
