/-
The cursor of package sexp: next, while; its tests of a byte. Conditions: none.
-/
import Derived.Test.YthhnhbpmpdminaaGreatDoorStk
import Derived.Test.YthhnhbpmpdminaaGreatDoorPsr
import Derived.Test.YthhnhbpmpdminaaGreatDoorPlan
import Derived.WalkKit
import Derived.BigQuiet
import Derived.Deep.QuietTactic
import Derived.Deep.LoopGhost
import Derived.Deep.DeepCutAuto
import Derived.Handy
import Derived.Test.YthhnhbpmpdminaaGreatDoorProg
namespace Go.Proofs.YthhnhbpmpdminaaGreatDoor
set_option maxRecDepth 4096
open Go.RowKit

theorem next_end (g t : Nat) (s : ByteArray) (i : Nat) (r : List Value) (w : World) (h : Cells w g t (.string s :: .int .i64 i :: r)) (hi : s.size ≤ i) :
    Calls Tryz.prog 189 #[.pointer (some ⟨g, 0, none⟩)] w fun e w' => e = .returned (.tuple #[.int .u8 0, .bool false]) ∧ ∃ n, w' = w.drewN n := by
  have h0 := h.cell 0 _ rfl
  have h1 := h.cell 1 _ rfl
  have hd : decide ((i : Int) ≥ s.size) = true := by simp; omega
  go_enter Tryz.func189, Tryz.ntmps189
  go_wp2
  go_quiet (fail)
  go_wp2
  go_ret2
  exact ⟨rfl, _, rfl⟩

theorem next_some (g t : Nat) (s : ByteArray) (i : Nat) (r : List Value) (w : World) (h : Cells w g t (.string s :: .int .i64 i :: r)) (hi : i < s.size)  :
    Calls Tryz.prog 189 #[.pointer (some ⟨g, 0, none⟩)] w fun e w' => e = .returned (.tuple #[.int .u8 (s[i].toNat : Int), .bool true]) ∧ ∃ n, w' = w.drewN n := by
  have h0 := h.cell 0 _ rfl
  have h1 := h.cell 1 _ rfl
  have hd : decide ((i : Int) ≥ s.size) = false := by simp; omega
  have hi0 : (0 : Int) ≤ (i : Int) := by omega
  have hi1 : (i : Int) < (s.size : Int) := by omega
  go_enter Tryz.func189, Tryz.ntmps189
  go_wp2
  go_quiet (fail)
  go_wp2
  go_quiet (fail)
  go_wp2
  go_ret2
  exact ⟨rfl, _, World.drewN_drewN _ _ _⟩

/-- One contract for both: what next answers. -/
def nextV (s : ByteArray) (i : Nat) : Value × Value := if h : i < s.size then (.int .u8 (s[i].toNat : Int), .bool true) else (.int .u8 0, .bool false)
theorem nextV_yes {s : ByteArray} {i : Nat} (h : i < s.size) : nextV s i = (.int .u8 (s[i].toNat : Int), .bool true) := by unfold nextV; rw [dif_pos h]
theorem nextV_no {s : ByteArray} {i : Nat} (h : ¬ i < s.size) : nextV s i = (.int .u8 0, .bool false) := by unfold nextV; rw [dif_neg h]
theorem next_any (g t : Nat) (s : ByteArray) (i : Nat) (r : List Value) (w : World) (h : Cells w g t (.string s :: .int .i64 i :: r)) :
    Calls Tryz.prog 189 #[.pointer (some ⟨g, 0, none⟩)] w fun e w' => e = .returned (.tuple #[(nextV s i).1, (nextV s i).2]) ∧ ∃ n, w' = w.drewN n := by
  by_cases hi : i < s.size
  · rw [nextV_yes hi]; exact next_some g t s i r w h hi
  · rw [nextV_no hi]; exact next_end g t s i r w h (by omega)

structure TestFn (F : FuncId) (f : UInt8 → Bool) : Prop where
  run : ∀ (args : Array Value) (w : World), (callFunc F args).run Tryz.prog w = .ok (.enter F args) w
  calls : ∀ (b : UInt8) (w : World), Calls Tryz.prog F #[.int .u8 (b.toNat : Int)] w fun e w' => e = .returned (.bool (f b)) ∧ ∃ n, w' = w.drewN n

set_option maxHeartbeats 1000000 in
theorem while_any (g t : Nat) (f : UInt8 → Bool) (F : FuncId) (hF : TestFn F f) (s : ByteArray) (i : Nat) (r : List Value) (w : World)
    (h : Cells w g t (.string s :: .int .i64 i :: r)) (hi : i ≤ s.size) (hs : s.size ≤ 9223372036854775807) :
    Calls Tryz.prog 136 #[.pointer (some ⟨g, 0, none⟩), .func (.func F) #[] #[]] w fun e w' => e = .returned (.tuple #[]) ∧ Mod (fun k => k = g) w w' ∧ Cells w' g t (.string s :: .int .i64 (scan f s.data.toList i) :: r) := by
  have hl : s.data.toList.length = s.size := by rw [Array.length_toList]; rfl
  go_enter Tryz.func136, Tryz.ntmps136
  go_wp2_with fail
  refine (next_any g t s i r w h).mono ?_
  rintro e w1 ⟨rfl, n1, rfl⟩
  go_wp2_with fail
  go_loopg [4, 5] (s.size - i) (fun gk b ok wr => ∃ j : Nat, i ≤ j ∧ j ≤ s.size ∧ gk = s.size - j ∧ b = (nextV s j).1 ∧ ok = (nextV s j).2 ∧ Hid (scan f s.data.toList i = scan f s.data.toList j) ∧ Cells wr g t (.string s :: .int .i64 j :: r) ∧ Mod (fun k => k = g) w wr)
  case atStart => exact ⟨i, Nat.le_refl _, hi, rfl, rfl, rfl, rfl, h, (Mod.refl _ _).drewN _⟩
  case round =>
    obtain ⟨j, hij, hj, rfl, rfl, rfl, hsc, hc, hm⟩ := hrel
    by_cases hlt : j < s.size
    · rw [nextV_yes hlt]
      have hb : s.data.toList[j]'(by omega) = s[j] := rfl
      have hrun := hF.run
      by_cases hf : f s[j] = true
      · have hsc2 : Hid (scan f s.data.toList j = scan f s.data.toList (j + 1)) := scan_yes f _ j (by omega) (by rw [hb]; exact hf)
        have h1 := hc.cell 1 _ rfl
        have f1 := hc.frozen 1
        clear hb
        go_wp2_with fail
        refine (hF.calls s[j] wr).mono ?_
        rintro e w1 ⟨rfl, n2, rfl⟩
        rw [hf]
        clear hf
        go_wp2_with fail
        have hc2 : Cells ((wr.drewN n2).setCell ⟨g, 1, none⟩ (.int .i64 ((j + 1 : Nat) : Int))) g t (.string s :: .int .i64 ((j + 1 : Nat) : Int) :: r) := Cells.set (hc.drewN n2) 1 _
        refine (next_any g t s (j + 1) r _ hc2).mono ?_
        rintro e w2 ⟨rfl, n3, rfl⟩
        go_wp2_with fail
        go_roundg (s.size - (j + 1))
        case measure => omega
        case rel => exact ⟨j + 1, by omega, by omega, rfl, rfl, rfl, hsc.out.trans hsc2.out, hc2.drewN _, ((hm.drewN n2).setCell (.inl rfl) _).drewN n3⟩
      · have hf' : f s[j] = false := by simpa using hf
        clear hf
        have hsc2 : Hid (scan f s.data.toList j = j) := scan_no f _ j (by omega) (by rw [hb]; exact hf')
        clear hb
        go_wp2_with fail
        refine (hF.calls s[j] wr).mono ?_
        rintro e w1 ⟨rfl, n2, rfl⟩
        rw [hf']
        clear hf'
        go_wp2_with fail
        go_returns
        exact ⟨rfl, hm.drewN _, by rw [hsc.out, hsc2.out]; exact hc⟩
    · rw [nextV_no hlt]
      have hsc2 : Hid (scan f s.data.toList j = j) := scan_end f _ j (by omega)
      go_wp2_with fail
      go_returns
      exact ⟨rfl, hm, by rw [hsc.out, hsc2.out]; exact hc⟩

theorem enters {F : FuncId} {fn : Func} (hf : Tryz.prog.funcs[F]? = some fn) (hn : (fn.name == "runtime.NumGoroutine") = false) (hb : fn.body.isSome = true) (args : Array Value) (w : World) : (callFunc F args).run Tryz.prog w = .ok (.enter F args) w := by
  have h1 : fn.name ≠ "runtime.NumGoroutine" := by simpa using hn
  obtain ⟨c, hc⟩ := Option.isSome_iff_exists.1 hb
  simp [callFunc, hf, h1, hc]

theorem wordF_any : TestFn 137 notBar := ⟨fun args w => enters Tryz.func137 (by kernel_rfl) (by kernel_rfl) args w, fun b w => by
  by_cases h1 : b = 124
  · subst h1
    go_enter Tryz.func137, Tryz.ntmps137
    go_wp2
    go_ret
    exact ⟨rfl, 0, rfl⟩
  · have e1 : ((b.toNat : Int) != 124) = true := by
      simp only [bne_iff_ne, ne_eq]; intro h; exact h1 (UInt8.toNat_inj.1 (by simpa using (by omega : b.toNat = 124)))
    have e2 : notBar b = ((b.toNat : Int) != 10) := by
      unfold notBar
      have : (b != 124) = true := by simpa using h1
      rw [this, Bool.true_and]
      by_cases h2 : b = 10
      · subst h2; rfl
      · rw [show (b != 10) = true by simpa using h2]
        symm; simp only [bne_iff_ne, ne_eq]; intro h; exact h2 (UInt8.toNat_inj.1 (by simpa using (by omega : b.toNat = 10)))
    rw [e2]
    clear e2
    go_enter Tryz.func137, Tryz.ntmps137
    go_wp2
    go_ret
    exact ⟨rfl, 0, rfl⟩⟩
end Go.Proofs.YthhnhbpmpdminaaGreatDoor
