/-
Printed contracts (the kit's print), those that this claim uses.
-/
import Derived.Test.YthhnhbpmpdminaaGreatDoorProg
import Derived.Below
import Derived.Deep.Draws
import Derived.Deep.AppendLies
import Derived.Maps.AppendAt
import Derived.OwnWalk
import Derived.Laws.BytesArg
import Derived.Laws.MakeOwn
import Derived.Laws.OwnMore
import Derived.Deep.OwnRows
import Derived.Tactics
import Derived.Lib.ConvBytes
import Derived.Laws.Slices
import Derived.WalkKit
import Derived.KernelRfl
import Derived.RowKit3
import Derived.Deep.LoopGhost
import Derived.Deep.QuietTactic
import Derived.BigQuiet
import Derived.WideLaws
import Derived.Deep.DeepCutAuto
import Derived.Deep.CutBlock
import Derived.Deep.RegionHeld3
import Derived.Laws.Rows
import Derived.Lib.AppendStr
import Derived.ArgAppend
import Derived.Laws.IdiomCopy
import Derived.OrdersHeld
import Derived.Laws.BitsLemmas
import Derived.RowKit
import Derived.Test.YthhnhbpmpdminaaGreatDoorWWords
import Derived.Test.YthhnhbpmpdminaaGreatDoorWLast
import Derived.Test.YthhnhbpmpdminaaGreatDoorWMore
namespace Go.Proofs.YthhnhbpmpdminaaGreatDoor.PDimacsParse
open Go.RowKit Go.Proofs.YthhnhbpmpdminaaGreatDoorW.PrintWords Go.Proofs.YthhnhbpmpdminaaGreatDoorW.PrintLast Go.Proofs.YthhnhbpmpdminaaGreatDoorW.PrintMore
attribute [local go_sem] max2_int min2_int max_two min_two max_three min_three max_four min_four   -- for this text's walks alone
set_option linter.unusedVariables false
set_option linter.unusedSimpArgs false



def errW : Option Int → Value
  | none => .nilIface
  | some c => .iface 0 (.int .i64 c)
theorem errW_none : errW none = .nilIface := rfl
theorem errW_some (c : Int) : errW (some c) = .iface 0 (.int .i64 c) := rfl

theorem info3 : (Tryz.prog.info? 3).map (fun i => (i.zero, i.size, i.bytes)) = some (some (.int .i64 0), 1, 8) := by kernel_rfl
theorem info9 : (Tryz.prog.info? 9).map (fun i => (i.zero, i.size, i.bytes)) = some (some (.string ⟨#[]⟩), 1, 16) := by kernel_rfl
theorem info61 : (Tryz.prog.info? 61).map (fun i => (i.zero, i.size, i.bytes)) = some (some (.slice none 0 0), 1, 24) := by kernel_rfl
-- the values' own types
def rd_L1 (xs : List (List Int)) (i : Int) : (List Int) := xs.getD i.toNat ([] : List Int)
theorem at_L1 {w : World} {A : Option Addr} {n : Nat} {xs : List (List Int)} (h : Kd.C (Kd.slice 3 (Kd.int .i64)) w A n xs) (i : Int) (h0 : 0 ≤ i) (h1 : i < n) : ∃ ad A0 c0, A = some ad ∧ w.cell? (ad.add i.toNat) = some (.slice A0 (rd_L1 xs i).length c0) ∧ (rd_L1 xs i).length ≤ c0 ∧ (Kd.int .i64).C w A0 (rd_L1 xs i).length (rd_L1 xs i) := by
  obtain ⟨ad, c, e, _, hK, hc0⟩ := Kd.C_get h ([] : List Int) i h0 h1
  have hc : ∀ j u, c[j]? = some u → w.cell? (ad.add (i.toNat * 1 + j)) = some u := hc0
  obtain ⟨A0, c0, rfl, l0, g0⟩ := hK
  exact ⟨ad, A0, c0, e, by have hq := hc 0 _ rfl; rwa [Nat.mul_one, Nat.add_zero] at hq, l0, g0⟩

def rd_L5 (xs : List (List Int)) (i : Int) : (List Int) := xs.getD i.toNat ([] : List Int)
theorem at_L5 {w : World} {A : Option Addr} {n : Nat} {xs : List (List Int)} (h : Kd.C (Kd.slice 213 (Kd.int .u32)) w A n xs) (i : Int) (h0 : 0 ≤ i) (h1 : i < n) : ∃ ad A0 c0, A = some ad ∧ w.cell? (ad.add i.toNat) = some (.slice A0 (rd_L5 xs i).length c0) ∧ (rd_L5 xs i).length ≤ c0 ∧ (Kd.int .u32).C w A0 (rd_L5 xs i).length (rd_L5 xs i) := by
  obtain ⟨ad, c, e, _, hK, hc0⟩ := Kd.C_get h ([] : List Int) i h0 h1
  have hc : ∀ j u, c[j]? = some u → w.cell? (ad.add (i.toNat * 1 + j)) = some u := hc0
  obtain ⟨A0, c0, rfl, l0, g0⟩ := hK
  exact ⟨ad, A0, c0, e, by have hq := hc 0 _ rfl; rwa [Nat.mul_one, Nat.add_zero] at hq, l0, g0⟩

/-! #### struct type 263 -/
structure S263 where
  f0 : (List Int)
  f1 : Int
def z263 : S263 := ⟨([] : List Int), (0 : Int)⟩
def k263 : Kd S263 := Kd.iso (Kd.pair (Kd.slice 213 (Kd.int .u32)) (Kd.int .i64)) (fun x : S263 => (x.f0, x.f1))
theorem k263_open {w : World} {x : S263} {cs : List Value} (h : k263.K w x cs) : ∃ A0 c0, cs = [.slice A0 x.f0.length c0, .int .i64 x.f1] ∧ x.f0.length ≤ c0 ∧ (Kd.int .u32).C w A0 x.f0.length x.f0 := by
  obtain ⟨_, _, rfl, ⟨A0, c0, rfl, l0, g0⟩, rfl⟩ := h
  exact ⟨A0, c0, rfl, l0, g0⟩
theorem k263_openM {w : World} {base : Nat} {ok : Nat → Prop} {x : S263} {cs : List Value} (h : k263.M w base ok x cs) : ∃ v0, cs = [v0, .int .i64 x.f1] ∧ (Kd.int .u32).R 213 w base ok v0 x.f0 := by
  obtain ⟨_, _, rfl, ⟨v0, rfl, g0⟩, rfl⟩ := h
  exact ⟨v0, rfl, g0⟩
theorem k263_mk (w : World) (x : S263) {A0 : Option Addr} {c0 : Nat} (l0 : x.f0.length ≤ c0) (g0 : (Kd.int .u32).C w A0 x.f0.length x.f0) : k263.K w x [.slice A0 x.f0.length c0, .int .i64 x.f1] := ⟨[.slice A0 x.f0.length c0], [.int .i64 x.f1], rfl, ⟨A0, c0, rfl, l0, g0⟩, rfl⟩
theorem k263_mkM (w : World) (base : Nat) (ok : Nat → Prop) (x : S263) {v0 : Value} (g0 : (Kd.int .u32).R 213 w base ok v0 x.f0) : k263.M w base ok x [v0, .int .i64 x.f1] := ⟨[v0], [.int .i64 x.f1], rfl, ⟨v0, rfl, g0⟩, rfl⟩
theorem k263_openF {W : World} {ok : Nat → Prop} {x : S263} {cs : List Value} (h : Kd.FK k263 W ok x cs) : ∃ A0 c0, cs = [.slice A0 x.f0.length c0, .int .i64 x.f1] ∧ x.f0.length ≤ c0 ∧ Kd.F (Kd.int .u32) W ok A0 x.f0.length x.f0 := by
  obtain ⟨A0, c0, rfl, l0, _⟩ := k263_open (Kd.FK_now h)
  exact ⟨A0, c0, rfl, l0, (fun W' hW => by obtain ⟨A0_, c0_, he, l0_, g0_⟩ := k263_open (h W' hW); injection (Option.some.inj (show some (Value.slice A0 x.f0.length c0) = some (Value.slice A0_ x.f0.length c0_) from congrArg (fun l => l[0]?) he)) with ha_ _ _; rw [ha_]; exact g0_)⟩
theorem k263_mkF (W : World) (ok : Nat → Prop) (x : S263) {A0 : Option Addr} {c0 : Nat} (l0 : x.f0.length ≤ c0) (g0 : Kd.F (Kd.int .u32) W ok A0 x.f0.length x.f0) : Kd.FK k263 W ok x [.slice A0 x.f0.length c0, .int .i64 x.f1] := fun W2 hW => k263_mk W2 x l0 (g0 W2 hW)
def rd_T263 (xs : List S263) (i : Int) : S263 := xs.getD i.toNat z263
theorem at_T263 {w : World} {A : Option Addr} {n : Nat} {xs : List S263} (h : Kd.C k263 w A n xs) (i : Int) (h0 : 0 ≤ i) (h1 : i < n) : ∃ ad A0 c0, A = some ad ∧ w.cell? (ad.add (i.toNat * 2)) = some (.slice A0 (rd_T263 xs i).f0.length c0) ∧ w.cell? ⟨(ad.add (i.toNat * 2)).block, (ad.add (i.toNat * 2)).off + 1, none⟩ = some (.int .i64 (rd_T263 xs i).f1) ∧ (rd_T263 xs i).f0.length ≤ c0 ∧ (Kd.int .u32).C w A0 (rd_T263 xs i).f0.length (rd_T263 xs i).f0 := by
  obtain ⟨ad, c, e, _, hK, hc0⟩ := Kd.C_get h z263 i h0 h1
  have hc : ∀ j u, c[j]? = some u → w.cell? (ad.add (i.toNat * 2 + j)) = some u := hc0
  obtain ⟨A0, c0, rfl, l0, g0⟩ := k263_open hK
  exact ⟨ad, A0, c0, e, hc 0 _ rfl, by rw [← add_field _ _ 1 (by omega)]; exact hc 1 _ rfl, l0, g0⟩
/-! ### plaithelp_Ints: function 50 -/
def plaithelp_Ints.l0 : Nat → List Int → List Int → Int → Option (Bool)
  | 0, _, _, _ => none
  | k + 1, x0, x1, x5 => if x5 < (x0.length : Int) then (if 0 ≤ x5 then (if x5 < (x1.length : Int) then (if (rd x0 x5) = (rd x1 x5) then (plaithelp_Ints.l0 k x0 x1 (wrap64 (x5 + 1))) else (some false)) else (none)) else (none)) else (some true)
def plaithelp_Ints.f (k : Nat) (l0 : List Int) (l1 : List Int) : Option (Bool) := if (l0.length : Int) = (l1.length : Int) then (plaithelp_Ints.l0 k l0 l1 0) else (some false)
theorem plaithelp_Ints.mono_l : ∀ k, (∀ y0 y1 y2, LeO (plaithelp_Ints.l0 k y0 y1 y2) (plaithelp_Ints.l0 (k + 1) y0 y1 y2))
  | 0 => fun _ _ _ r h => by simp [plaithelp_Ints.l0] at h
  | k + 1 => by
    have ih0 := plaithelp_Ints.mono_l k
    · intro y0 y1 y2
      unfold plaithelp_Ints.l0
      repeat' first
      | (with_reducible exact ih0 _ _ _)
      | (with_reducible exact LeO.refl _)
      | (with_reducible exact LeO.none _)
      | (with_reducible refine LeO.ite ?_ ?_)
      | (with_reducible refine LeO.bind ?_ (fun _ => ?_))
      | exact ih0 _ _ _
      | exact LeO.none _
      | refine LeO.ite ?_ ?_
      | refine LeO.bind ?_ (fun _ => ?_)
theorem plaithelp_Ints.mono : ∀ a0 a1 k, LeO (plaithelp_Ints.f k a0 a1) (plaithelp_Ints.f (k + 1) a0 a1) := by
  intro a0 a1 k
  have ih0 := plaithelp_Ints.mono_l k
  unfold plaithelp_Ints.f
  repeat' first
      | (with_reducible exact ih0 _ _ _)
      | (with_reducible exact LeO.refl _)
      | (with_reducible exact LeO.none _)
      | (with_reducible refine LeO.ite ?_ ?_)
      | (with_reducible refine LeO.bind ?_ (fun _ => ?_))
      | exact ih0 _ _ _
      | exact LeO.none _
      | refine LeO.ite ?_ ?_
      | refine LeO.bind ?_ (fun _ => ?_)
set_option maxHeartbeats 8000000 in
set_option maxRecDepth 100000 in
theorem plaithelp_Ints.calls (k : Nat) (A0 : Option Addr) (c0 : Nat) (l0 : List Int) (A1 : Option Addr) (c1 : Nat) (l1 : List Int) (r : Bool) (w : World) (hr0 : Kd.C (Kd.int .i64) w A0 l0.length l0) (hc0 : l0.length ≤ c0) (hr1 : Kd.C (Kd.int .i64) w A1 l1.length l1) (hc1 : l1.length ≤ c1) (h : plaithelp_Ints.f k l0 l1 = some r) :
    Calls Tryz.prog 50 #[.slice A0 l0.length c0, .slice A1 l1.length c1] w fun e w' => e = .returned (.bool r) ∧ Drawn0 w w' := by
  have HR0 := Aside0.mk hr0
  have HC0 := Aside0.mk hc0
  clear hr0 hc0
  have HR1 := Aside0.mk hr1
  have HC1 := Aside0.mk hc1
  clear hr1 hc1
  have H : (if (l0.length : Int) = (l1.length : Int) then (plaithelp_Ints.l0 k l0 l1 0) else (some false)) = some r := h
  clear h
  by_cases c3 : (l0.length : Int) = (l1.length : Int)
  · rw [if_pos c3] at H
    have c3b0 : ((l0.length : Int) == (l1.length : Int)) = true := beq_iff_eq.mpr c3
    have c3b1 : ((l0.length : Int) != (l1.length : Int)) = false := bne_eq_false_iff_eq.mpr c3
    have c3b2 : (l0.length == l1.length) = true := by first | simpa using c3 | (simp at c3 ⊢; omega)
    clear c3
    have H' := Aside0.mk H
    clear H
    go_enter Tryz.func50, Tryz.ntmps50
    go_wp2
    repeat (go_quiet (fail); try go_wp2)
    go_loopg [5] k (fun kq v5 w' => ∃ (x5_1 : Int), v5 = .int .i64 x5_1 ∧ Aside0 (plaithelp_Ints.l0 kq l0 l1 x5_1 = some r) ∧ Aside0 (kq ≤ k) ∧ Drawn0 w w')
    case atStart => exact ⟨(0), (by first | rfl | (simp; done) | (simp [*]; done)), H', ⟨Nat.le_refl _⟩, by repeat (first | exact Drawn0.refl _ | apply Drawn0.step)⟩
    case round =>
      clear H'
      try clear c1
      try clear p2
      try clear c3
      try clear c3b0
      try clear c3b1
      try clear c3b2
      obtain ⟨x5_1, rfl, HA, HK1, ⟨m1, rfl⟩⟩ := hrel
      cases gk with
      | zero => exact absurd HA.out (by simp [plaithelp_Ints.l0])
      | succ k1 =>
        have H := HA.out
        clear HA
        simp only [plaithelp_Ints.l0] at H
        by_cases c4 : x5_1 < (l0.length : Int)
        · rw [if_pos c4] at H
          have c4b0 : decide (x5_1 < (l0.length : Int)) = true := decide_eq_true c4
          clear c4
          by_cases c5 : 0 ≤ x5_1
          · rw [if_pos c5] at H
            have c5b0 : decide (0 ≤ x5_1) = true := decide_eq_true c5
            clear c5
            by_cases c6 : x5_1 < (l1.length : Int)
            · rw [if_pos c6] at H
              have c6b0 : decide (x5_1 < (l1.length : Int)) = true := decide_eq_true c6
              clear c6
              by_cases c7 : (rd l0 x5_1) = (rd l1 x5_1)
              · rw [if_pos c7] at H
                have c7b0 : ((rd l0 x5_1) == (rd l1 x5_1)) = true := beq_iff_eq.mpr c7
                have c7b1 : ((rd l0 x5_1) != (rd l1 x5_1)) = false := bne_eq_false_iff_eq.mpr c7
                clear c7
                have H' := Aside0.mk H
                clear H
                have p114 : 0 ≤ (x5_1 : Int) := of_decide_eq_true (by first | (with_reducible assumption) | assumption)
                have q114 : x5_1 < (l0.length : Int) := of_decide_eq_true (by first | (with_reducible assumption) | assumption)
                obtain ⟨ad114, e114, hx114_0⟩ := Kd.at_int HR0.out x5_1 p114 q114
                cases e114
                replace p114 := eq_true p114
                replace q114 := eq_true q114
                have p115 : 0 ≤ (x5_1 : Int) := of_decide_eq_true (by first | (with_reducible assumption) | assumption)
                have q115 : x5_1 < (l1.length : Int) := of_decide_eq_true (by first | (with_reducible assumption) | assumption)
                obtain ⟨ad115, e115, hx115_0⟩ := Kd.at_int HR1.out x5_1 p115 q115
                cases e115
                replace p115 := eq_true p115
                replace q115 := eq_true q115
                go_wp2
                repeat (go_quiet (fail); try go_wp2)
                go_roundg k1
                case measure => have := HK1.out; omega
                case rel => exact ⟨(wrap64 (x5_1 + 1)), (by first | rfl | (simp; done) | (simp [*]; done)), H', ⟨by have := HK1.out; omega⟩, by repeat (first | exact Drawn0.refl _ | apply Drawn0.step)⟩
              · rw [if_neg c7] at H
                have c7b0 : ((rd l0 x5_1) == (rd l1 x5_1)) = false := beq_eq_false_iff_ne.mpr c7
                have c7b1 : ((rd l0 x5_1) != (rd l1 x5_1)) = true := bne_iff_ne.mpr c7
                obtain rfl := Option.some.inj H
                have p114 : 0 ≤ (x5_1 : Int) := of_decide_eq_true (by first | (with_reducible assumption) | assumption)
                have q114 : x5_1 < (l0.length : Int) := of_decide_eq_true (by first | (with_reducible assumption) | assumption)
                obtain ⟨ad114, e114, hx114_0⟩ := Kd.at_int HR0.out x5_1 p114 q114
                cases e114
                replace p114 := eq_true p114
                replace q114 := eq_true q114
                have p115 : 0 ≤ (x5_1 : Int) := of_decide_eq_true (by first | (with_reducible assumption) | assumption)
                have q115 : x5_1 < (l1.length : Int) := of_decide_eq_true (by first | (with_reducible assumption) | assumption)
                obtain ⟨ad115, e115, hx115_0⟩ := Kd.at_int HR1.out x5_1 p115 q115
                cases e115
                replace p115 := eq_true p115
                replace q115 := eq_true q115
                go_wp2
                repeat (go_quiet (fail); try go_wp2)
                go_ret
                exact ⟨by first | rfl | (simp; done) | (simp [*]; done), by repeat (first | exact Drawn0.refl _ | apply Drawn0.step)⟩
            · rw [if_neg c6] at H
              exact absurd H (by simp)
          · rw [if_neg c5] at H
            exact absurd H (by simp)
        · rw [if_neg c4] at H
          have c4b0 : decide (x5_1 < (l0.length : Int)) = false := decide_eq_false c4
          clear c4
          obtain rfl := Option.some.inj H
          go_wp2
          repeat (go_quiet (fail); try go_wp2)
          go_ret
          exact ⟨by first | rfl | (simp; done) | (simp [*]; done), by repeat (first | exact Drawn0.refl _ | apply Drawn0.step)⟩
  · rw [if_neg c3] at H
    have c3b0 : ((l0.length : Int) == (l1.length : Int)) = false := beq_eq_false_iff_ne.mpr c3
    have c3b1 : ((l0.length : Int) != (l1.length : Int)) = true := bne_iff_ne.mpr c3
    have c3b2 : (l0.length == l1.length) = false := by first | simpa using c3 | (simp at c3 ⊢; omega)
    obtain rfl := Option.some.inj H
    go_enter Tryz.func50, Tryz.ntmps50
    go_wp2
    repeat (go_quiet (fail); try go_wp2)
    go_ret
    exact ⟨by first | rfl | (simp; done) | (simp [*]; done), by repeat (first | exact Drawn0.refl _ | apply Drawn0.step)⟩
/-! ### plaithelp_Lists: function 16 -/
def plaithelp_Lists.l0 : Nat → List (List Int) → List (List Int) → Int → Option (Bool)
  | 0, _, _, _ => none
  | k + 1, x0, x1, x5 => if x5 < (x0.length : Int) then (if 0 ≤ x5 then (if x5 < (x1.length : Int) then ((plaithelp_Ints.f k (rd_L1 x0 x5) (rd_L1 x1 x5)).bind fun t118 => (if t118 = true then (plaithelp_Lists.l0 k x0 x1 (wrap64 (x5 + 1))) else (some false))) else (none)) else (none)) else (some true)
def plaithelp_Lists.f (k : Nat) (l0 : List (List Int)) (l1 : List (List Int)) : Option (Bool) := if (l0.length : Int) = (l1.length : Int) then (plaithelp_Lists.l0 k l0 l1 0) else (some false)
theorem plaithelp_Lists.mono_l : ∀ k, (∀ y0 y1 y2, LeO (plaithelp_Lists.l0 k y0 y1 y2) (plaithelp_Lists.l0 (k + 1) y0 y1 y2))
  | 0 => fun _ _ _ r h => by simp [plaithelp_Lists.l0] at h
  | k + 1 => by
    have ih0 := plaithelp_Lists.mono_l k
    · intro y0 y1 y2
      unfold plaithelp_Lists.l0
      repeat' first
      | (with_reducible exact ih0 _ _ _)
      | (with_reducible exact plaithelp_Ints.mono _ _ _)
      | (with_reducible exact LeO.refl _)
      | (with_reducible exact LeO.none _)
      | (with_reducible refine LeO.ite ?_ ?_)
      | (with_reducible refine LeO.bind ?_ (fun _ => ?_))
      | exact ih0 _ _ _
      | exact plaithelp_Ints.mono _ _ _
      | exact LeO.none _
      | refine LeO.ite ?_ ?_
      | refine LeO.bind ?_ (fun _ => ?_)
theorem plaithelp_Lists.mono : ∀ a0 a1 k, LeO (plaithelp_Lists.f k a0 a1) (plaithelp_Lists.f (k + 1) a0 a1) := by
  intro a0 a1 k
  have ih0 := plaithelp_Lists.mono_l k
  unfold plaithelp_Lists.f
  repeat' first
      | (with_reducible exact ih0 _ _ _)
      | (with_reducible exact plaithelp_Ints.mono _ _ _)
      | (with_reducible exact LeO.refl _)
      | (with_reducible exact LeO.none _)
      | (with_reducible refine LeO.ite ?_ ?_)
      | (with_reducible refine LeO.bind ?_ (fun _ => ?_))
      | exact ih0 _ _ _
      | exact plaithelp_Ints.mono _ _ _
      | exact LeO.none _
      | refine LeO.ite ?_ ?_
      | refine LeO.bind ?_ (fun _ => ?_)
set_option maxHeartbeats 8000000 in
set_option maxRecDepth 100000 in
theorem plaithelp_Lists.calls (k : Nat) (A0 : Option Addr) (c0 : Nat) (l0 : List (List Int)) (A1 : Option Addr) (c1 : Nat) (l1 : List (List Int)) (r : Bool) (w : World) (hr0 : Kd.C (Kd.slice 3 (Kd.int .i64)) w A0 l0.length l0) (hc0 : l0.length ≤ c0) (hr1 : Kd.C (Kd.slice 3 (Kd.int .i64)) w A1 l1.length l1) (hc1 : l1.length ≤ c1) (h : plaithelp_Lists.f k l0 l1 = some r) :
    Calls Tryz.prog 16 #[.slice A0 l0.length c0, .slice A1 l1.length c1] w fun e w' => e = .returned (.bool r) ∧ Drawn0 w w' := by
  have HR0 := Aside0.mk hr0
  have HC0 := Aside0.mk hc0
  clear hr0 hc0
  have HR1 := Aside0.mk hr1
  have HC1 := Aside0.mk hc1
  clear hr1 hc1
  have H : (if (l0.length : Int) = (l1.length : Int) then (plaithelp_Lists.l0 k l0 l1 0) else (some false)) = some r := h
  clear h
  by_cases c3 : (l0.length : Int) = (l1.length : Int)
  · rw [if_pos c3] at H
    have c3b0 : ((l0.length : Int) == (l1.length : Int)) = true := beq_iff_eq.mpr c3
    have c3b1 : ((l0.length : Int) != (l1.length : Int)) = false := bne_eq_false_iff_eq.mpr c3
    have c3b2 : (l0.length == l1.length) = true := by first | simpa using c3 | (simp at c3 ⊢; omega)
    clear c3
    have H' := Aside0.mk H
    clear H
    go_enter Tryz.func16, Tryz.ntmps16
    go_wp2
    repeat (go_quiet (fail); try go_wp2)
    go_loopg [5] k (fun kq v5 w' => ∃ (x5_1 : Int), v5 = .int .i64 x5_1 ∧ Aside0 (plaithelp_Lists.l0 kq l0 l1 x5_1 = some r) ∧ Aside0 (kq ≤ k) ∧ Drawn0 w w')
    case atStart => exact ⟨(0), (by first | rfl | (simp; done) | (simp [*]; done)), H', ⟨Nat.le_refl _⟩, by repeat (first | exact Drawn0.refl _ | apply Drawn0.step)⟩
    case round =>
      clear H'
      try clear c1
      try clear p2
      try clear c3
      try clear c3b0
      try clear c3b1
      try clear c3b2
      obtain ⟨x5_1, rfl, HA, HK1, ⟨m1, rfl⟩⟩ := hrel
      cases gk with
      | zero => exact absurd HA.out (by simp [plaithelp_Lists.l0])
      | succ k1 =>
        have H := HA.out
        clear HA
        simp only [plaithelp_Lists.l0] at H
        by_cases c4 : x5_1 < (l0.length : Int)
        · rw [if_pos c4] at H
          have c4b0 : decide (x5_1 < (l0.length : Int)) = true := decide_eq_true c4
          clear c4
          by_cases c5 : 0 ≤ x5_1
          · rw [if_pos c5] at H
            have c5b0 : decide (0 ≤ x5_1) = true := decide_eq_true c5
            clear c5
            by_cases c6 : x5_1 < (l1.length : Int)
            · rw [if_pos c6] at H
              have c6b0 : decide (x5_1 < (l1.length : Int)) = true := decide_eq_true c6
              clear c6
              replace H := Option.bind_eq_some_iff.mp H
              obtain ⟨t118, A70, H⟩ := H
              replace H : (if t118 = true then (plaithelp_Lists.l0 k1 l0 l1 (wrap64 (x5_1 + 1))) else (some false)) = some r := H
              have A7 := Aside0.mk A70
              clear A70
              by_cases c8 : t118 = true
              · subst c8
                have H1 : (plaithelp_Lists.l0 k1 l0 l1 (wrap64 (x5_1 + 1))) = some r := by rw [if_pos rfl] at H; exact H
                clear H
                have H := H1
                clear H1
                have H' := Aside0.mk H
                clear H
                have p116 : 0 ≤ (x5_1 : Int) := of_decide_eq_true (by first | (with_reducible assumption) | assumption)
                have q116 : x5_1 < (l0.length : Int) := of_decide_eq_true (by first | (with_reducible assumption) | assumption)
                obtain ⟨ad116, A116_0, c116_0, e116, hx116_0, hl116_0, hi116_0⟩ := at_L1 HR0.out x5_1 p116 q116
                cases e116
                have HR116_0 := Aside0.mk hi116_0
                have HC116_0 := Aside0.mk hl116_0
                clear hi116_0 hl116_0
                replace p116 := eq_true p116
                replace q116 := eq_true q116
                have p117 : 0 ≤ (x5_1 : Int) := of_decide_eq_true (by first | (with_reducible assumption) | assumption)
                have q117 : x5_1 < (l1.length : Int) := of_decide_eq_true (by first | (with_reducible assumption) | assumption)
                obtain ⟨ad117, A117_0, c117_0, e117, hx117_0, hl117_0, hi117_0⟩ := at_L1 HR1.out x5_1 p117 q117
                cases e117
                have HR117_0 := Aside0.mk hi117_0
                have HC117_0 := Aside0.mk hl117_0
                clear hi117_0 hl117_0
                replace p117 := eq_true p117
                replace q117 := eq_true q117
                go_wp2_with (first | (go_at_call 50; (with_reducible refine (plaithelp_Ints.calls k1 _ _ (rd_L1 l0 x5_1) _ _ (rd_L1 l1 x5_1) true _ ?side1 ?side2 ?side3 ?side4 A7.out).mono ?_); (case side1 => repeat (first | exact HR116_0.out | (with_reducible refine Kd.C_alloc ?_ _) | (with_reducible refine Kd.C_drewN ?_ _) | (with_reducible refine Kd.C_drew ?_))); (case side2 => exact HC116_0.out); (case side3 => repeat (first | exact HR117_0.out | (with_reducible refine Kd.C_alloc ?_ _) | (with_reducible refine Kd.C_drewN ?_ _) | (with_reducible refine Kd.C_drew ?_))); (case side4 => exact HC117_0.out); rintro e w' ⟨rfl, ⟨nd, rfl⟩⟩; (try first | exact ⟨rfl, _, World.drewN_drewN _ _ _⟩ | exact ⟨rfl, _, Eq.trans (World.drewN_drewN _ _ _) (congrArg (World.drewN _) (Nat.add_assoc _ _ _))⟩)))
                repeat (go_quiet (first | (go_at_call 50; (with_reducible refine (plaithelp_Ints.calls k1 _ _ (rd_L1 l0 x5_1) _ _ (rd_L1 l1 x5_1) true _ ?side1 ?side2 ?side3 ?side4 A7.out).mono ?_); (case side1 => repeat (first | exact HR116_0.out | (with_reducible refine Kd.C_alloc ?_ _) | (with_reducible refine Kd.C_drewN ?_ _) | (with_reducible refine Kd.C_drew ?_))); (case side2 => exact HC116_0.out); (case side3 => repeat (first | exact HR117_0.out | (with_reducible refine Kd.C_alloc ?_ _) | (with_reducible refine Kd.C_drewN ?_ _) | (with_reducible refine Kd.C_drew ?_))); (case side4 => exact HC117_0.out); rintro e w' ⟨rfl, ⟨nd, rfl⟩⟩; (try first | exact ⟨rfl, _, World.drewN_drewN _ _ _⟩ | exact ⟨rfl, _, Eq.trans (World.drewN_drewN _ _ _) (congrArg (World.drewN _) (Nat.add_assoc _ _ _))⟩))); try go_wp2_with (first | (go_at_call 50; (with_reducible refine (plaithelp_Ints.calls k1 _ _ (rd_L1 l0 x5_1) _ _ (rd_L1 l1 x5_1) true _ ?side1 ?side2 ?side3 ?side4 A7.out).mono ?_); (case side1 => repeat (first | exact HR116_0.out | (with_reducible refine Kd.C_alloc ?_ _) | (with_reducible refine Kd.C_drewN ?_ _) | (with_reducible refine Kd.C_drew ?_))); (case side2 => exact HC116_0.out); (case side3 => repeat (first | exact HR117_0.out | (with_reducible refine Kd.C_alloc ?_ _) | (with_reducible refine Kd.C_drewN ?_ _) | (with_reducible refine Kd.C_drew ?_))); (case side4 => exact HC117_0.out); rintro e w' ⟨rfl, ⟨nd, rfl⟩⟩; (try first | exact ⟨rfl, _, World.drewN_drewN _ _ _⟩ | exact ⟨rfl, _, Eq.trans (World.drewN_drewN _ _ _) (congrArg (World.drewN _) (Nat.add_assoc _ _ _))⟩))))
                go_roundg k1
                case measure => have := HK1.out; omega
                case rel => exact ⟨(wrap64 (x5_1 + 1)), (by first | rfl | (simp; done) | (simp [*]; done)), H', ⟨by have := HK1.out; omega⟩, by repeat (first | exact Drawn0.refl _ | apply Drawn0.step)⟩
              · replace c8 := Bool.eq_false_iff.mpr c8
                subst c8
                have H1 : (some false) = some r := by rw [if_neg (show ¬ (false = true) by decide)] at H; exact H
                clear H
                have H := H1
                clear H1
                obtain rfl := Option.some.inj H
                have p116 : 0 ≤ (x5_1 : Int) := of_decide_eq_true (by first | (with_reducible assumption) | assumption)
                have q116 : x5_1 < (l0.length : Int) := of_decide_eq_true (by first | (with_reducible assumption) | assumption)
                obtain ⟨ad116, A116_0, c116_0, e116, hx116_0, hl116_0, hi116_0⟩ := at_L1 HR0.out x5_1 p116 q116
                cases e116
                have HR116_0 := Aside0.mk hi116_0
                have HC116_0 := Aside0.mk hl116_0
                clear hi116_0 hl116_0
                replace p116 := eq_true p116
                replace q116 := eq_true q116
                have p117 : 0 ≤ (x5_1 : Int) := of_decide_eq_true (by first | (with_reducible assumption) | assumption)
                have q117 : x5_1 < (l1.length : Int) := of_decide_eq_true (by first | (with_reducible assumption) | assumption)
                obtain ⟨ad117, A117_0, c117_0, e117, hx117_0, hl117_0, hi117_0⟩ := at_L1 HR1.out x5_1 p117 q117
                cases e117
                have HR117_0 := Aside0.mk hi117_0
                have HC117_0 := Aside0.mk hl117_0
                clear hi117_0 hl117_0
                replace p117 := eq_true p117
                replace q117 := eq_true q117
                go_wp2_with (first | (go_at_call 50; (with_reducible refine (plaithelp_Ints.calls k1 _ _ (rd_L1 l0 x5_1) _ _ (rd_L1 l1 x5_1) false _ ?side1 ?side2 ?side3 ?side4 A7.out).mono ?_); (case side1 => repeat (first | exact HR116_0.out | (with_reducible refine Kd.C_alloc ?_ _) | (with_reducible refine Kd.C_drewN ?_ _) | (with_reducible refine Kd.C_drew ?_))); (case side2 => exact HC116_0.out); (case side3 => repeat (first | exact HR117_0.out | (with_reducible refine Kd.C_alloc ?_ _) | (with_reducible refine Kd.C_drewN ?_ _) | (with_reducible refine Kd.C_drew ?_))); (case side4 => exact HC117_0.out); rintro e w' ⟨rfl, ⟨nd, rfl⟩⟩; (try first | exact ⟨rfl, _, World.drewN_drewN _ _ _⟩ | exact ⟨rfl, _, Eq.trans (World.drewN_drewN _ _ _) (congrArg (World.drewN _) (Nat.add_assoc _ _ _))⟩)))
                repeat (go_quiet (first | (go_at_call 50; (with_reducible refine (plaithelp_Ints.calls k1 _ _ (rd_L1 l0 x5_1) _ _ (rd_L1 l1 x5_1) false _ ?side1 ?side2 ?side3 ?side4 A7.out).mono ?_); (case side1 => repeat (first | exact HR116_0.out | (with_reducible refine Kd.C_alloc ?_ _) | (with_reducible refine Kd.C_drewN ?_ _) | (with_reducible refine Kd.C_drew ?_))); (case side2 => exact HC116_0.out); (case side3 => repeat (first | exact HR117_0.out | (with_reducible refine Kd.C_alloc ?_ _) | (with_reducible refine Kd.C_drewN ?_ _) | (with_reducible refine Kd.C_drew ?_))); (case side4 => exact HC117_0.out); rintro e w' ⟨rfl, ⟨nd, rfl⟩⟩; (try first | exact ⟨rfl, _, World.drewN_drewN _ _ _⟩ | exact ⟨rfl, _, Eq.trans (World.drewN_drewN _ _ _) (congrArg (World.drewN _) (Nat.add_assoc _ _ _))⟩))); try go_wp2_with (first | (go_at_call 50; (with_reducible refine (plaithelp_Ints.calls k1 _ _ (rd_L1 l0 x5_1) _ _ (rd_L1 l1 x5_1) false _ ?side1 ?side2 ?side3 ?side4 A7.out).mono ?_); (case side1 => repeat (first | exact HR116_0.out | (with_reducible refine Kd.C_alloc ?_ _) | (with_reducible refine Kd.C_drewN ?_ _) | (with_reducible refine Kd.C_drew ?_))); (case side2 => exact HC116_0.out); (case side3 => repeat (first | exact HR117_0.out | (with_reducible refine Kd.C_alloc ?_ _) | (with_reducible refine Kd.C_drewN ?_ _) | (with_reducible refine Kd.C_drew ?_))); (case side4 => exact HC117_0.out); rintro e w' ⟨rfl, ⟨nd, rfl⟩⟩; (try first | exact ⟨rfl, _, World.drewN_drewN _ _ _⟩ | exact ⟨rfl, _, Eq.trans (World.drewN_drewN _ _ _) (congrArg (World.drewN _) (Nat.add_assoc _ _ _))⟩))))
                go_ret
                exact ⟨by first | rfl | (simp; done) | (simp [*]; done), by repeat (first | exact Drawn0.refl _ | apply Drawn0.step)⟩
            · rw [if_neg c6] at H
              exact absurd H (by simp)
          · rw [if_neg c5] at H
            exact absurd H (by simp)
        · rw [if_neg c4] at H
          have c4b0 : decide (x5_1 < (l0.length : Int)) = false := decide_eq_false c4
          clear c4
          obtain rfl := Option.some.inj H
          go_wp2
          repeat (go_quiet (fail); try go_wp2)
          go_ret
          exact ⟨by first | rfl | (simp; done) | (simp [*]; done), by repeat (first | exact Drawn0.refl _ | apply Drawn0.step)⟩
  · rw [if_neg c3] at H
    have c3b0 : ((l0.length : Int) == (l1.length : Int)) = false := beq_eq_false_iff_ne.mpr c3
    have c3b1 : ((l0.length : Int) != (l1.length : Int)) = true := bne_iff_ne.mpr c3
    have c3b2 : (l0.length == l1.length) = false := by first | simpa using c3 | (simp at c3 ⊢; omega)
    obtain rfl := Option.some.inj H
    go_enter Tryz.func16, Tryz.ntmps16
    go_wp2
    repeat (go_quiet (fail); try go_wp2)
    go_ret
    exact ⟨by first | rfl | (simp; done) | (simp [*]; done), by repeat (first | exact Drawn0.refl _ | apply Drawn0.step)⟩

-- NOT PRINTED: function 111 (abi_NoEscape)

-- NOT PRINTED: function 86 (strings_Builder_copyCheck)

-- NOT PRINTED: function 52 (strings_Builder_WriteString)
/-! ### plaitref19_lines: function 46 -/
def plaitref19_lines.l0 : Nat → ByteArray → List ByteArray → Int → Int → Option (List ByteArray)
  | 0, _, _, _, _ => none
  | k + 1, x0, x3, x4, x5 => if x5 ≤ (x0.size : Int) then (if x5 = (x0.size : Int) then (if 0 ≤ x4 then (if x4 ≤ x5 then (if x3.length < 8796093022208 then (plaitref19_lines.l0 k x0 (x3 ++ [x0.extract (x4 : Int).toNat (x5 : Int).toNat]) (wrap64 (x5 + 1)) (wrap64 (x5 + 1))) else (none)) else (none)) else (none)) else (if 0 ≤ x5 then (if x5 < (x0.size : Int) then (if (bt x0 x5) = 10 then (if 0 ≤ x4 then (if x4 ≤ x5 then (if x3.length < 8796093022208 then (plaitref19_lines.l0 k x0 (x3 ++ [x0.extract (x4 : Int).toNat (x5 : Int).toNat]) (wrap64 (x5 + 1)) (wrap64 (x5 + 1))) else (none)) else (none)) else (none)) else (plaitref19_lines.l0 k x0 x3 x4 (wrap64 (x5 + 1)))) else (none)) else (none))) else (some x3)
def plaitref19_lines.f (k : Nat) (a0 : ByteArray) : Option (List ByteArray) := plaitref19_lines.l0 k a0 ([] : List ByteArray) 0 0
theorem plaitref19_lines.mono_l : ∀ k, (∀ y0 y1 y2 y3, LeO (plaitref19_lines.l0 k y0 y1 y2 y3) (plaitref19_lines.l0 (k + 1) y0 y1 y2 y3))
  | 0 => fun _ _ _ _ r h => by simp [plaitref19_lines.l0] at h
  | k + 1 => by
    have ih0 := plaitref19_lines.mono_l k
    · intro y0 y1 y2 y3
      unfold plaitref19_lines.l0
      repeat' first
      | (with_reducible exact ih0 _ _ _ _)
      | (with_reducible exact LeO.refl _)
      | (with_reducible exact LeO.none _)
      | (with_reducible refine LeO.ite ?_ ?_)
      | (with_reducible refine LeO.bind ?_ (fun _ => ?_))
      | exact ih0 _ _ _ _
      | exact LeO.none _
      | refine LeO.ite ?_ ?_
      | refine LeO.bind ?_ (fun _ => ?_)
theorem plaitref19_lines.mono : ∀ a0 k, LeO (plaitref19_lines.f k a0) (plaitref19_lines.f (k + 1) a0) := by
  intro a0 k
  have ih0 := plaitref19_lines.mono_l k
  unfold plaitref19_lines.f
  repeat' first
      | (with_reducible exact ih0 _ _ _ _)
      | (with_reducible exact LeO.refl _)
      | (with_reducible exact LeO.none _)
      | (with_reducible refine LeO.ite ?_ ?_)
      | (with_reducible refine LeO.bind ?_ (fun _ => ?_))
      | exact ih0 _ _ _ _
      | exact LeO.none _
      | refine LeO.ite ?_ ?_
      | refine LeO.bind ?_ (fun _ => ?_)
set_option maxHeartbeats 8000000 in
set_option maxRecDepth 100000 in
theorem plaitref19_lines.calls (k : Nat) (a0 : ByteArray) (r : List ByteArray) (w : World) (h : plaitref19_lines.f k a0 = some r) :
    Calls Tryz.prog 46 #[.string a0] w fun e w' => ∃ v0_ : Value, e = .returned (v0_) ∧ Kd.R Kd.string 9 w' w.heap.size (fun _ => True) v0_ r ∧ Below w.heap.size w w' := by
  have HB := Aside0.mk (Below.refl w.heap.size w)
  have H : (plaitref19_lines.l0 k a0 ([] : List ByteArray) 0 0) = some r := h
  clear h
  have H' := Aside0.mk H
  clear H
  go_enter Tryz.func46, Tryz.ntmps46
  go_wp2
  go_loopg [3, 4, 5] k (fun kq v3 v4 v5 w' => ∃ (x3_1 : List ByteArray) (x4_1 : Int) (x5_1 : Int), v4 = .int .i64 x4_1 ∧ v5 = .int .i64 x5_1 ∧ Aside0 (plaitref19_lines.l0 kq a0 x3_1 x4_1 x5_1 = some r) ∧ Aside0 (kq ≤ k) ∧ Aside0 (Kd.R Kd.string 9 w' w.heap.size (fun _ => True) v3 x3_1) ∧ Aside0 (Below w.heap.size w w'))
  case atStart => exact ⟨(([] : List ByteArray)), (0), (0), (by first | rfl | (simp; done) | (simp [*]; done)), (by first | rfl | (simp; done) | (simp [*]; done)), H', ⟨Nat.le_refl _⟩, ⟨by first | exact Kd.R_nil _ _ _ _ _ | exact Kd.N_nil _ _ _ _ _ | exact Kd.V_nil _ _ _ _ _ | exact Kd.Q_nil _ _ _ _ _ | exact Kd.S_nil _ _ _ _ _⟩, ⟨by repeat (first | (with_reducible first | exact HB.out | apply below_alloc | apply pw_below_drewN | apply below_drew1) | exact HB.out)⟩⟩
  case round =>
    clear H'
    obtain ⟨x3_1, x4_1, x5_1, rfl, rfl, HA, HK1, HO_3, HB⟩ := hrel
    cases gk with
    | zero => exact absurd HA.out (by simp [plaitref19_lines.l0])
    | succ k1 =>
      have H := HA.out
      clear HA
      simp only [plaitref19_lines.l0] at H
      by_cases c2 : x5_1 ≤ (a0.size : Int)
      · rw [if_pos c2] at H
        have c2b0 : decide (x5_1 ≤ (a0.size : Int)) = true := decide_eq_true c2
        clear c2
        by_cases c3 : x5_1 = (a0.size : Int)
        · rw [if_pos c3] at H
          have c3b0 : (x5_1 == (a0.size : Int)) = true := beq_iff_eq.mpr c3
          have c3b1 : (x5_1 != (a0.size : Int)) = false := bne_eq_false_iff_eq.mpr c3
          clear c3
          by_cases c4 : 0 ≤ x4_1
          · rw [if_pos c4] at H
            have c4b0 := eq_true c4
            have c4b1 : decide (0 ≤ x4_1) = true := decide_eq_true c4
            clear c4
            by_cases c5 : x4_1 ≤ x5_1
            · rw [if_pos c5] at H
              have c5b0 := eq_true c5
              have c5b1 : decide (x4_1 ≤ x5_1) = true := decide_eq_true c5
              clear c5
              have c6b0 := eq_true (of_decide_eq_true (by first | (with_reducible assumption) | assumption) : x5_1 ≤ (a0.size : Int))
              by_cases c7 : x3_1.length < 8796093022208
              · rw [if_pos c7] at H
                have LMc7 := Aside0.mk c7
                clear c7
                obtain ⟨y268, hy268⟩ : ∃ y_ : List ByteArray, y_ = (x3_1 ++ [a0.extract (x4_1 : Int).toNat (x5_1 : Int).toNat]) := ⟨_, rfl⟩
                replace H : (plaitref19_lines.l0 k1 a0 y268 (wrap64 (x5_1 + 1)) (wrap64 (x5_1 + 1))) = some r := by first | (rw [hy268]; with_reducible exact H) | (have H2_ := (Option.bind_some _ _).symm.trans H; rw [hy268]; with_reducible exact H2_) | (have H2_ := (Option.bind_some _ _).symm.trans H; with_reducible exact H2_) | with_reducible exact H | (rw [hy268]; exact H) | exact H
                have Ny268 := Aside0.mk hy268
                clear hy268
                have H' := Aside0.mk H
                clear H
                go_wp2_with (first | ((with_reducible refine gate_builtin (b := .append) (xs := #[.tmp 22, .tmp 27]) rfl ?_); at_builtin; refine Kd.R_append Kd.string (w0 := w) w.heap.size rfl (.tmp 22) (.tmp 27) 72 9 (.string ⟨#[]⟩) 16 rfl Tryz.underlying72 info9 rfl (by decide) (by omega) u3 x3_1 (a0.extract (x4_1 : Int).toNat (x5_1 : Int).toNat) [.string (a0.extract (x4_1 : Int).toNat (x5_1 : Int).toNat)] (fun _ => True) (fun _ => False) rfl rfl ?aP (fun _ hk => hk.elim) ?aF ?aO ?aB ?aS ?aL ?_; (case aP => exact rfl); (case aB => exact (by repeat (first | (with_reducible first | exact HB.out | apply below_alloc | apply pw_below_drewN | apply below_drew1) | exact HB.out))); (case aF => exact (fun _ _ => trivial)); (case aO => exact (by (with_reducible repeat (first | apply Kd.R_alloc | apply Kd.R_drewN | apply Kd.R_drew)); exact HO_3.out)); (case aS => exact (below_size (by repeat (first | (with_reducible first | exact HB.out | apply below_alloc | apply pw_below_drewN | apply below_drew1) | exact HB.out)))); (case aL => have := LMc7.out; omega); intro v269 w8 ho hb hg hat; rw [← Ny268.out] at ho; have n0_ := Aside0.mk (hb); have n1_ := Aside0.mk (ho); clear HB; clear HO_3; have HB := n0_; have HO270 := n1_; clear n0_ n1_; clear ho hb hg hat))
                go_roundg k1
                case measure => have := HK1.out; omega
                case rel => exact ⟨(y268), (wrap64 (x5_1 + 1)), (wrap64 (x5_1 + 1)), (by first | rfl | (simp; done) | (simp [*]; done)), (by first | rfl | (simp; done) | (simp [*]; done)), H', ⟨by have := HK1.out; omega⟩, ⟨by (with_reducible repeat (first | apply Kd.R_alloc | apply Kd.R_drewN | apply Kd.R_drew)); exact HO270.out⟩, ⟨by repeat (first | (with_reducible first | exact HB.out | apply below_alloc | apply pw_below_drewN | apply below_drew1) | exact HB.out)⟩⟩
              · rw [if_neg c7] at H
                exact absurd H (by simp)
            · rw [if_neg c5] at H
              exact absurd H (by simp)
          · rw [if_neg c4] at H
            exact absurd H (by simp)
        · rw [if_neg c3] at H
          have c3b0 : (x5_1 == (a0.size : Int)) = false := beq_eq_false_iff_ne.mpr c3
          have c3b1 : (x5_1 != (a0.size : Int)) = true := bne_iff_ne.mpr c3
          by_cases c9 : 0 ≤ x5_1
          · rw [if_pos c9] at H
            have c9b0 : decide (0 ≤ x5_1) = true := decide_eq_true c9
            clear c9
            by_cases c10 : x5_1 < (a0.size : Int)
            · rw [if_pos c10] at H
              have c10b0 : decide (x5_1 < (a0.size : Int)) = true := decide_eq_true c10
              clear c10
              by_cases c12 : (bt a0 x5_1) = 10
              · rw [if_pos c12] at H
                have c12b0 : ((bt a0 x5_1) == 10) = true := beq_iff_eq.mpr c12
                have c12b1 : ((bt a0 x5_1) != 10) = false := bne_eq_false_iff_eq.mpr c12
                clear c12
                by_cases c13 : 0 ≤ x4_1
                · rw [if_pos c13] at H
                  have c13b0 := eq_true c13
                  have c13b1 : decide (0 ≤ x4_1) = true := decide_eq_true c13
                  clear c13
                  by_cases c14 : x4_1 ≤ x5_1
                  · rw [if_pos c14] at H
                    have c14b0 := eq_true c14
                    have c14b1 : decide (x4_1 ≤ x5_1) = true := decide_eq_true c14
                    clear c14
                    have c15b0 := eq_true (of_decide_eq_true (by first | (with_reducible assumption) | assumption) : x5_1 ≤ (a0.size : Int))
                    by_cases c16 : x3_1.length < 8796093022208
                    · rw [if_pos c16] at H
                      have LMc16 := Aside0.mk c16
                      clear c16
                      obtain ⟨y271, hy271⟩ : ∃ y_ : List ByteArray, y_ = (x3_1 ++ [a0.extract (x4_1 : Int).toNat (x5_1 : Int).toNat]) := ⟨_, rfl⟩
                      replace H : (plaitref19_lines.l0 k1 a0 y271 (wrap64 (x5_1 + 1)) (wrap64 (x5_1 + 1))) = some r := by first | (rw [hy271]; with_reducible exact H) | (have H2_ := (Option.bind_some _ _).symm.trans H; rw [hy271]; with_reducible exact H2_) | (have H2_ := (Option.bind_some _ _).symm.trans H; with_reducible exact H2_) | with_reducible exact H | (rw [hy271]; exact H) | exact H
                      have Ny271 := Aside0.mk hy271
                      clear hy271
                      have H' := Aside0.mk H
                      clear H
                      have p11 : 0 ≤ (x5_1 : Int) := of_decide_eq_true (by first | (with_reducible assumption) | assumption)
                      have q11 : x5_1 < (a0.size : Int) := of_decide_eq_true (by first | (with_reducible assumption) | assumption)
                      have hx11 := bt_at a0 x5_1
                      replace p11 := eq_true p11
                      replace q11 := eq_true q11
                      go_wp2_with (first | ((with_reducible refine gate_builtin (b := .append) (xs := #[.tmp 22, .tmp 27]) rfl ?_); at_builtin; refine Kd.R_append Kd.string (w0 := w) w.heap.size rfl (.tmp 22) (.tmp 27) 72 9 (.string ⟨#[]⟩) 16 rfl Tryz.underlying72 info9 rfl (by decide) (by omega) u3 x3_1 (a0.extract (x4_1 : Int).toNat (x5_1 : Int).toNat) [.string (a0.extract (x4_1 : Int).toNat (x5_1 : Int).toNat)] (fun _ => True) (fun _ => False) rfl rfl ?aP (fun _ hk => hk.elim) ?aF ?aO ?aB ?aS ?aL ?_; (case aP => exact rfl); (case aB => exact (by repeat (first | (with_reducible first | exact HB.out | apply below_alloc | apply pw_below_drewN | apply below_drew1) | exact HB.out))); (case aF => exact (fun _ _ => trivial)); (case aO => exact (by (with_reducible repeat (first | apply Kd.R_alloc | apply Kd.R_drewN | apply Kd.R_drew)); exact HO_3.out)); (case aS => exact (below_size (by repeat (first | (with_reducible first | exact HB.out | apply below_alloc | apply pw_below_drewN | apply below_drew1) | exact HB.out)))); (case aL => have := LMc16.out; omega); intro v272 w17 ho hb hg hat; rw [← Ny271.out] at ho; have n0_ := Aside0.mk (hb); have n1_ := Aside0.mk (ho); clear HB; clear HO_3; have HB := n0_; have HO273 := n1_; clear n0_ n1_; clear ho hb hg hat))
                      go_roundg k1
                      case measure => have := HK1.out; omega
                      case rel => exact ⟨(y271), (wrap64 (x5_1 + 1)), (wrap64 (x5_1 + 1)), (by first | rfl | (simp; done) | (simp [*]; done)), (by first | rfl | (simp; done) | (simp [*]; done)), H', ⟨by have := HK1.out; omega⟩, ⟨by (with_reducible repeat (first | apply Kd.R_alloc | apply Kd.R_drewN | apply Kd.R_drew)); exact HO273.out⟩, ⟨by repeat (first | (with_reducible first | exact HB.out | apply below_alloc | apply pw_below_drewN | apply below_drew1) | exact HB.out)⟩⟩
                    · rw [if_neg c16] at H
                      exact absurd H (by simp)
                  · rw [if_neg c14] at H
                    exact absurd H (by simp)
                · rw [if_neg c13] at H
                  exact absurd H (by simp)
              · rw [if_neg c12] at H
                have c12b0 : ((bt a0 x5_1) == 10) = false := beq_eq_false_iff_ne.mpr c12
                have c12b1 : ((bt a0 x5_1) != 10) = true := bne_iff_ne.mpr c12
                have H' := Aside0.mk H
                clear H
                have p11 : 0 ≤ (x5_1 : Int) := of_decide_eq_true (by first | (with_reducible assumption) | assumption)
                have q11 : x5_1 < (a0.size : Int) := of_decide_eq_true (by first | (with_reducible assumption) | assumption)
                have hx11 := bt_at a0 x5_1
                replace p11 := eq_true p11
                replace q11 := eq_true q11
                go_wp2
                go_roundg k1
                case measure => have := HK1.out; omega
                case rel => exact ⟨(x3_1), (x4_1), (wrap64 (x5_1 + 1)), (by first | rfl | (simp; done) | (simp [*]; done)), (by first | rfl | (simp; done) | (simp [*]; done)), H', ⟨by have := HK1.out; omega⟩, ⟨by (with_reducible repeat (first | apply Kd.R_alloc | apply Kd.R_drewN | apply Kd.R_drew)); exact HO_3.out⟩, ⟨by repeat (first | (with_reducible first | exact HB.out | apply below_alloc | apply pw_below_drewN | apply below_drew1) | exact HB.out)⟩⟩
            · rw [if_neg c10] at H
              exact absurd H (by simp)
          · rw [if_neg c9] at H
            exact absurd H (by simp)
      · rw [if_neg c2] at H
        have c2b0 : decide (x5_1 ≤ (a0.size : Int)) = false := decide_eq_false c2
        clear c2
        obtain rfl := Option.some.inj H
        go_wp2
        go_ret
        exact ⟨_, by first | rfl | (simp [errW_none, errW_some] <;> rfl) | (simp [*, errW_none, errW_some] <;> rfl), by (with_reducible repeat (first | apply Kd.R_alloc | apply Kd.R_drewN | apply Kd.R_drew)); exact HO_3.out, by repeat (first | (with_reducible first | exact HB.out | apply below_alloc | apply pw_below_drewN | apply below_drew1) | exact HB.out)⟩
/-! ### plaitref19_words: function 47 -/
mutual
def plaitref19_words.l0 : Nat → ByteArray → List ByteArray → ByteArray → Int → Option (List ByteArray)
  | 0, _, _, _, _ => none
  | k + 1, x0, x3, x4, x5 => if x5 ≤ (x0.size : Int) then (if x5 < (x0.size : Int) then (if 0 ≤ x5 then (plaitref19_words.j1 k x0 x3 x4 x5 ((bt x0 x5) != 32)) else (none)) else (plaitref19_words.j1 k x0 x3 x4 x5 false)) else (some x3)
def plaitref19_words.j1 : Nat → ByteArray → List ByteArray → ByteArray → Int → Bool → Option (List ByteArray)
  | 0, _, _, _, _, _ => none
  | k + 1, x0, x3, x4, x5, x21 => if x21 = true then (if 0 ≤ x5 then (if x5 ≤ (wrap64 (x5 + 1)) then (if (wrap64 (x5 + 1)) ≤ (x0.size : Int) then (if x4.size + (x0.extract (x5 : Int).toNat ((wrap64 (x5 + 1)) : Int).toNat).size ≤ 9223372036854775807 then (plaitref19_words.l0 k x0 x3 (x4 ++ (x0.extract (x5 : Int).toNat ((wrap64 (x5 + 1)) : Int).toNat)) (wrap64 (x5 + 1))) else (none)) else (none)) else (none)) else (none)) else (if x4.toList = ([] : List UInt8) then (plaitref19_words.l0 k x0 x3 (⟨#[]⟩ : ByteArray) (wrap64 (x5 + 1))) else (if x3.length < 8796093022208 then (plaitref19_words.l0 k x0 (x3 ++ [x4]) (⟨#[]⟩ : ByteArray) (wrap64 (x5 + 1))) else (none)))
end
def plaitref19_words.f (k : Nat) (a0 : ByteArray) : Option (List ByteArray) := plaitref19_words.l0 k a0 ([] : List ByteArray) (⟨#[]⟩ : ByteArray) 0
theorem plaitref19_words.mono_l : ∀ k, (∀ y0 y1 y2 y3, LeO (plaitref19_words.l0 k y0 y1 y2 y3) (plaitref19_words.l0 (k + 1) y0 y1 y2 y3)) ∧ (∀ y0 y1 y2 y3 y4, LeO (plaitref19_words.j1 k y0 y1 y2 y3 y4) (plaitref19_words.j1 (k + 1) y0 y1 y2 y3 y4))
  | 0 => ⟨fun _ _ _ _ r h => by simp [plaitref19_words.l0] at h, fun _ _ _ _ _ r h => by simp [plaitref19_words.j1] at h⟩
  | k + 1 => by
    obtain ⟨ih0, ih1⟩ := plaitref19_words.mono_l k
    refine ⟨?_, ?_⟩
    · intro y0 y1 y2 y3
      unfold plaitref19_words.l0
      repeat' first
      | (with_reducible exact ih0 _ _ _ _)
      | (with_reducible exact ih1 _ _ _ _ _)
      | (with_reducible exact LeO.refl _)
      | (with_reducible exact LeO.none _)
      | (with_reducible refine LeO.ite ?_ ?_)
      | (with_reducible refine LeO.bind ?_ (fun _ => ?_))
      | exact ih0 _ _ _ _
      | exact ih1 _ _ _ _ _
      | exact LeO.none _
      | refine LeO.ite ?_ ?_
      | refine LeO.bind ?_ (fun _ => ?_)
    · intro y0 y1 y2 y3 y4
      unfold plaitref19_words.j1
      repeat' first
      | (with_reducible exact ih0 _ _ _ _)
      | (with_reducible exact ih1 _ _ _ _ _)
      | (with_reducible exact LeO.refl _)
      | (with_reducible exact LeO.none _)
      | (with_reducible refine LeO.ite ?_ ?_)
      | (with_reducible refine LeO.bind ?_ (fun _ => ?_))
      | exact ih0 _ _ _ _
      | exact ih1 _ _ _ _ _
      | exact LeO.none _
      | refine LeO.ite ?_ ?_
      | refine LeO.bind ?_ (fun _ => ?_)
theorem plaitref19_words.mono : ∀ a0 k, LeO (plaitref19_words.f k a0) (plaitref19_words.f (k + 1) a0) := by
  intro a0 k
  obtain ⟨ih0, ih1⟩ := plaitref19_words.mono_l k
  unfold plaitref19_words.f
  repeat' first
      | (with_reducible exact ih0 _ _ _ _)
      | (with_reducible exact ih1 _ _ _ _ _)
      | (with_reducible exact LeO.refl _)
      | (with_reducible exact LeO.none _)
      | (with_reducible refine LeO.ite ?_ ?_)
      | (with_reducible refine LeO.bind ?_ (fun _ => ?_))
      | exact ih0 _ _ _ _
      | exact ih1 _ _ _ _ _
      | exact LeO.none _
      | refine LeO.ite ?_ ?_
      | refine LeO.bind ?_ (fun _ => ?_)
set_option maxHeartbeats 8000000 in
set_option maxRecDepth 100000 in
theorem plaitref19_words.calls (k : Nat) (a0 : ByteArray) (r : List ByteArray) (w : World) (h : plaitref19_words.f k a0 = some r) :
    Calls Tryz.prog 47 #[.string a0] w fun e w' => ∃ v0_ : Value, e = .returned (v0_) ∧ Kd.R Kd.string 9 w' w.heap.size (fun _ => True) v0_ r ∧ Below w.heap.size w w' := by
  have HB := Aside0.mk (Below.refl w.heap.size w)
  have H : (plaitref19_words.l0 k a0 ([] : List ByteArray) (⟨#[]⟩ : ByteArray) 0) = some r := h
  clear h
  have H' := Aside0.mk H
  clear H
  go_enter Tryz.func47, Tryz.ntmps47
  go_wp2
  go_loopg [3, 4, 5] k (fun kq v3 v4 v5 w' => ∃ (x3_1 : List ByteArray) (x4_1 : ByteArray) (x5_1 : Int), v4 = .string x4_1 ∧ v5 = .int .i64 x5_1 ∧ Aside0 (plaitref19_words.l0 kq a0 x3_1 x4_1 x5_1 = some r) ∧ Aside0 (kq ≤ k) ∧ Aside0 (Kd.R Kd.string 9 w' w.heap.size (fun _ => True) v3 x3_1) ∧ Aside0 (Below w.heap.size w w'))
  case atStart => exact ⟨(([] : List ByteArray)), ((⟨#[]⟩ : ByteArray)), (0), (by first | rfl | (simp; done) | (simp [*]; done)), (by first | rfl | (simp; done) | (simp [*]; done)), H', ⟨Nat.le_refl _⟩, ⟨by first | exact Kd.R_nil _ _ _ _ _ | exact Kd.N_nil _ _ _ _ _ | exact Kd.V_nil _ _ _ _ _ | exact Kd.Q_nil _ _ _ _ _ | exact Kd.S_nil _ _ _ _ _⟩, ⟨by repeat (first | (with_reducible first | exact HB.out | apply below_alloc | apply pw_below_drewN | apply below_drew1) | exact HB.out)⟩⟩
  case round =>
    clear H'
    obtain ⟨x3_1, x4_1, x5_1, rfl, rfl, HA, HK1, HO_3, HB⟩ := hrel
    cases gk with
    | zero => exact absurd HA.out (by simp [plaitref19_words.l0])
    | succ k1 =>
      have H := HA.out
      clear HA
      simp only [plaitref19_words.l0] at H
      by_cases c2 : x5_1 ≤ (a0.size : Int)
      · rw [if_pos c2] at H
        have c2b0 : decide (x5_1 ≤ (a0.size : Int)) = true := decide_eq_true c2
        clear c2
        have HC3 := Aside0.mk H
        clear H
        go_upto_region 6 with (fail)
        go_cut [21] (fun v21 wc => ∃ (kq : Nat) (x21_2 : Bool), v21 = .bool x21_2 ∧ Aside0 (plaitref19_words.j1 kq a0 x3_1 x4_1 x5_1 x21_2 = some r) ∧ Aside0 (kq ≤ k1) ∧ Aside0 (Kd.R Kd.string 9 wc w.heap.size (fun _ => True) u3 x3_1) ∧ Aside0 (Below w.heap.size w wc))
        case first =>
          have H := HC3.out
          clear HC3
          by_cases c4 : x5_1 < (a0.size : Int)
          · rw [if_pos c4] at H
            have c4b0 : decide (x5_1 < (a0.size : Int)) = true := decide_eq_true c4
            clear c4
            (first | rw [c4b0] | (simp only [i64_w, i32_w]; rw [c4b0]) | skip)
            by_cases c5 : 0 ≤ x5_1
            · rw [if_pos c5] at H
              have c5b0 : decide (0 ≤ x5_1) = true := decide_eq_true c5
              clear c5
              have H' := Aside0.mk H
              clear H
              have p6 : 0 ≤ (x5_1 : Int) := of_decide_eq_true (by first | (with_reducible assumption) | assumption)
              have q6 : x5_1 < (a0.size : Int) := of_decide_eq_true (by first | (with_reducible assumption) | assumption)
              have hx6 := bt_at a0 x5_1
              replace p6 := eq_true p6
              replace q6 := eq_true q6
              go_wp2
              go_meet
              case rel => exact ⟨_, (((bt a0 x5_1) != 32)), (by first | rfl | (simp; done) | (simp [*]; done)), H', ⟨by have := HK1.out; first | omega | exact Nat.le_refl _⟩, ⟨by (with_reducible repeat (first | apply Kd.R_alloc | apply Kd.R_drewN | apply Kd.R_drew)); exact HO_3.out⟩, ⟨by repeat (first | (with_reducible first | exact HB.out | apply below_alloc | apply pw_below_drewN | apply below_drew1) | exact HB.out)⟩⟩
            · rw [if_neg c5] at H
              exact absurd H (by simp)
          · rw [if_neg c4] at H
            have c4b0 : decide (x5_1 < (a0.size : Int)) = false := decide_eq_false c4
            clear c4
            (first | rw [c4b0] | (simp only [i64_w, i32_w]; rw [c4b0]) | skip)
            have H' := Aside0.mk H
            clear H
            go_wp2
            go_meet
            case rel => exact ⟨_, (false), (by first | rfl | (simp; done) | (simp [*]; done)), H', ⟨by have := HK1.out; first | omega | exact Nat.le_refl _⟩, ⟨by (with_reducible repeat (first | apply Kd.R_alloc | apply Kd.R_drewN | apply Kd.R_drew)); exact HO_3.out⟩, ⟨by repeat (first | (with_reducible first | exact HB.out | apply below_alloc | apply pw_below_drewN | apply below_drew1) | exact HB.out)⟩⟩
        case rest =>
          clear HC3
          try clear c2
          try clear c2b0
          try clear p2
          try clear c4
          try clear c4b0
          try clear c5
          try clear c5b0
          try clear p6
          try clear q6
          try clear hx6
          try clear p6
          try clear q6
          obtain ⟨kq, x21_2, rfl, HA, HJ2, HO_3, HB⟩ := hcut
          cases kq with
          | zero => exact absurd HA.out (by simp [plaitref19_words.j1])
          | succ kj2 =>
            have H := HA.out
            clear HA
            simp only [plaitref19_words.j1] at H
            by_cases c7 : x21_2 = true
            · subst c7
              have H1 : (if 0 ≤ x5_1 then (if x5_1 ≤ (wrap64 (x5_1 + 1)) then (if (wrap64 (x5_1 + 1)) ≤ (a0.size : Int) then (if x4_1.size + (a0.extract (x5_1 : Int).toNat ((wrap64 (x5_1 + 1)) : Int).toNat).size ≤ 9223372036854775807 then (plaitref19_words.l0 kj2 a0 x3_1 (x4_1 ++ (a0.extract (x5_1 : Int).toNat ((wrap64 (x5_1 + 1)) : Int).toNat)) (wrap64 (x5_1 + 1))) else (none)) else (none)) else (none)) else (none)) = some r := by rw [if_pos rfl] at H; exact H
              clear H
              have H := H1
              clear H1
              by_cases c8 : 0 ≤ x5_1
              · rw [if_pos c8] at H
                have c8b0 := eq_true c8
                have c8b1 : decide (0 ≤ x5_1) = true := decide_eq_true c8
                clear c8
                by_cases c9 : x5_1 ≤ (wrap64 (x5_1 + 1))
                · rw [if_pos c9] at H
                  have c9b0 := eq_true c9
                  have c9b1 : decide (x5_1 ≤ (wrap64 (x5_1 + 1))) = true := decide_eq_true c9
                  by_cases c10 : (wrap64 (x5_1 + 1)) ≤ (a0.size : Int)
                  · rw [if_pos c10] at H
                    have c10b0 := eq_true c10
                    have c10b1 : decide ((wrap64 (x5_1 + 1)) ≤ (a0.size : Int)) = true := decide_eq_true c10
                    by_cases c11 : x4_1.size + (a0.extract (x5_1 : Int).toNat ((wrap64 (x5_1 + 1)) : Int).toNat).size ≤ 9223372036854775807
                    · rw [if_pos c11] at H
                      have c11b0 := eq_true c11
                      have c11b1 : decide (x4_1.size + (a0.extract (x5_1 : Int).toNat ((wrap64 (x5_1 + 1)) : Int).toNat).size ≤ 9223372036854775807) = true := decide_eq_true c11
                      try have c11b2 : (9223372036854775807 < x4_1.size + (a0.extract (x5_1 : Int).toNat ((wrap64 (x5_1 + 1)) : Int).toNat).size) = False := eq_false (Nat.not_lt.2 c11)
                      have H' := Aside0.mk H
                      clear H
                      go_wp2
                      go_roundg kj2
                      case measure => have := HK1.out; have := HJ2.out; omega
                      case rel => exact ⟨(x3_1), (x4_1 ++ (a0.extract (x5_1 : Int).toNat ((wrap64 (x5_1 + 1)) : Int).toNat)), (wrap64 (x5_1 + 1)), (by first | rfl | (simp; done) | (simp [*]; done)), (by first | rfl | (simp; done) | (simp [*]; done)), H', ⟨by have := HK1.out; have := HJ2.out; omega⟩, ⟨by (with_reducible repeat (first | apply Kd.R_alloc | apply Kd.R_drewN | apply Kd.R_drew)); exact HO_3.out⟩, ⟨by repeat (first | (with_reducible first | exact HB.out | apply below_alloc | apply pw_below_drewN | apply below_drew1) | exact HB.out)⟩⟩
                    · rw [if_neg c11] at H
                      exact absurd H (by simp)
                  · rw [if_neg c10] at H
                    exact absurd H (by simp)
                · rw [if_neg c9] at H
                  exact absurd H (by simp)
              · rw [if_neg c8] at H
                exact absurd H (by simp)
            · replace c7 := Bool.eq_false_iff.mpr c7
              subst c7
              have H1 : (if x4_1.toList = ([] : List UInt8) then (plaitref19_words.l0 kj2 a0 x3_1 (⟨#[]⟩ : ByteArray) (wrap64 (x5_1 + 1))) else (if x3_1.length < 8796093022208 then (plaitref19_words.l0 kj2 a0 (x3_1 ++ [x4_1]) (⟨#[]⟩ : ByteArray) (wrap64 (x5_1 + 1))) else (none))) = some r := by rw [if_neg (show ¬ (false = true) by decide)] at H; exact H
              clear H
              have H := H1
              clear H1
              by_cases c12 : x4_1.toList = ([] : List UInt8)
              · rw [if_pos c12] at H
                have c12b0 : (x4_1.toList == ([] : List UInt8)) = true := beq_iff_eq.mpr c12
                have c12b1 : (x4_1.toList != ([] : List UInt8)) = false := bne_eq_false_iff_eq.mpr c12
                clear c12
                have H' := Aside0.mk H
                clear H
                go_wp2
                go_roundg kj2
                case measure => have := HK1.out; have := HJ2.out; omega
                case rel => exact ⟨(x3_1), ((⟨#[]⟩ : ByteArray)), (wrap64 (x5_1 + 1)), (by first | rfl | (simp; done) | (simp [*]; done)), (by first | rfl | (simp; done) | (simp [*]; done)), H', ⟨by have := HK1.out; have := HJ2.out; omega⟩, ⟨by (with_reducible repeat (first | apply Kd.R_alloc | apply Kd.R_drewN | apply Kd.R_drew)); exact HO_3.out⟩, ⟨by repeat (first | (with_reducible first | exact HB.out | apply below_alloc | apply pw_below_drewN | apply below_drew1) | exact HB.out)⟩⟩
              · rw [if_neg c12] at H
                have c12b0 : (x4_1.toList == ([] : List UInt8)) = false := beq_eq_false_iff_ne.mpr c12
                have c12b1 : (x4_1.toList != ([] : List UInt8)) = true := bne_iff_ne.mpr c12
                by_cases c13 : x3_1.length < 8796093022208
                · rw [if_pos c13] at H
                  have LMc13 := Aside0.mk c13
                  clear c13
                  obtain ⟨y274, hy274⟩ : ∃ y_ : List ByteArray, y_ = (x3_1 ++ [x4_1]) := ⟨_, rfl⟩
                  replace H : (plaitref19_words.l0 kj2 a0 y274 (⟨#[]⟩ : ByteArray) (wrap64 (x5_1 + 1))) = some r := by first | (rw [hy274]; with_reducible exact H) | (have H2_ := (Option.bind_some _ _).symm.trans H; rw [hy274]; with_reducible exact H2_) | (have H2_ := (Option.bind_some _ _).symm.trans H; with_reducible exact H2_) | with_reducible exact H | (rw [hy274]; exact H) | exact H
                  have Ny274 := Aside0.mk hy274
                  clear hy274
                  have H' := Aside0.mk H
                  clear H
                  go_wp2_with (first | ((with_reducible refine gate_builtin (b := .append) (xs := #[.tmp 31, .tmp 33]) rfl ?_); at_builtin; refine Kd.R_append Kd.string (w0 := w) w.heap.size rfl (.tmp 31) (.tmp 33) 72 9 (.string ⟨#[]⟩) 16 rfl Tryz.underlying72 info9 rfl (by decide) (by omega) u3 x3_1 x4_1 [.string x4_1] (fun _ => True) (fun _ => False) rfl rfl ?aP (fun _ hk => hk.elim) ?aF ?aO ?aB ?aS ?aL ?_; (case aP => exact rfl); (case aB => exact (by repeat (first | (with_reducible first | exact HB.out | apply below_alloc | apply pw_below_drewN | apply below_drew1) | exact HB.out))); (case aF => exact (fun _ _ => trivial)); (case aO => exact (by (with_reducible repeat (first | apply Kd.R_alloc | apply Kd.R_drewN | apply Kd.R_drew)); exact HO_3.out)); (case aS => exact (below_size (by repeat (first | (with_reducible first | exact HB.out | apply below_alloc | apply pw_below_drewN | apply below_drew1) | exact HB.out)))); (case aL => have := LMc13.out; omega); intro v275 w14 ho hb hg hat; rw [← Ny274.out] at ho; have n0_ := Aside0.mk (hb); have n1_ := Aside0.mk (ho); clear HB; clear HO_3; have HB := n0_; have HO276 := n1_; clear n0_ n1_; clear ho hb hg hat))
                  go_roundg kj2
                  case measure => have := HK1.out; have := HJ2.out; omega
                  case rel => exact ⟨(y274), ((⟨#[]⟩ : ByteArray)), (wrap64 (x5_1 + 1)), (by first | rfl | (simp; done) | (simp [*]; done)), (by first | rfl | (simp; done) | (simp [*]; done)), H', ⟨by have := HK1.out; have := HJ2.out; omega⟩, ⟨by (with_reducible repeat (first | apply Kd.R_alloc | apply Kd.R_drewN | apply Kd.R_drew)); exact HO276.out⟩, ⟨by repeat (first | (with_reducible first | exact HB.out | apply below_alloc | apply pw_below_drewN | apply below_drew1) | exact HB.out)⟩⟩
                · rw [if_neg c13] at H
                  exact absurd H (by simp)
      · rw [if_neg c2] at H
        have c2b0 : decide (x5_1 ≤ (a0.size : Int)) = false := decide_eq_false c2
        clear c2
        obtain rfl := Option.some.inj H
        go_wp2
        go_ret
        exact ⟨_, by first | rfl | (simp [errW_none, errW_some] <;> rfl) | (simp [*, errW_none, errW_some] <;> rfl), by (with_reducible repeat (first | apply Kd.R_alloc | apply Kd.R_drewN | apply Kd.R_drew)); exact HO_3.out, by repeat (first | (with_reducible first | exact HB.out | apply below_alloc | apply pw_below_drewN | apply below_drew1) | exact HB.out)⟩
/-! ### plaitref19_number: function 48 -/
mutual
def plaitref19_number.j0 : Nat → ByteArray → Bool → Option (Int × Bool)
  | 0, _, _ => none
  | k + 1, x0, x23 => if x23 = true then (some (0, false)) else (plaitref19_number.l0 k x0 0 0)
def plaitref19_number.l0 : Nat → ByteArray → Int → Int → Option (Int × Bool)
  | 0, _, _, _ => none
  | k + 1, x0, x4, x5 => if x5 < (x0.size : Int) then (if 0 ≤ x5 then (if (bt x0 x5) < 48 then (some (0, false)) else (if (bt x0 x5) > 57 then (some (0, false)) else (plaitref19_number.l0 k x0 (wrap64 ((wrap64 (10 * x4)) + (((bt x0 x5) - 48) % 256))) (wrap64 (x5 + 1))))) else (none)) else (some (x4, true))
end
def plaitref19_number.f (k : Nat) (a0 : ByteArray) : Option (Int × Bool) := if (a0.size : Int) = 0 then (plaitref19_number.j0 k a0 true) else (if (a0.size : Int) > 9 then (plaitref19_number.j0 k a0 true) else (if (a0.size : Int) > 1 then (if 0 < (a0.size : Int) then (plaitref19_number.j0 k a0 ((bt a0 0) == 48)) else (none)) else (plaitref19_number.j0 k a0 false)))
theorem plaitref19_number.mono_l : ∀ k, (∀ y0 y1, LeO (plaitref19_number.j0 k y0 y1) (plaitref19_number.j0 (k + 1) y0 y1)) ∧ (∀ y0 y1 y2, LeO (plaitref19_number.l0 k y0 y1 y2) (plaitref19_number.l0 (k + 1) y0 y1 y2))
  | 0 => ⟨fun _ _ r h => by simp [plaitref19_number.j0] at h, fun _ _ _ r h => by simp [plaitref19_number.l0] at h⟩
  | k + 1 => by
    obtain ⟨ih0, ih1⟩ := plaitref19_number.mono_l k
    refine ⟨?_, ?_⟩
    · intro y0 y1
      unfold plaitref19_number.j0
      repeat' first
      | (with_reducible exact ih0 _ _)
      | (with_reducible exact ih1 _ _ _)
      | (with_reducible exact LeO.refl _)
      | (with_reducible exact LeO.none _)
      | (with_reducible refine LeO.ite ?_ ?_)
      | (with_reducible refine LeO.bind ?_ (fun _ => ?_))
      | exact ih0 _ _
      | exact ih1 _ _ _
      | exact LeO.none _
      | refine LeO.ite ?_ ?_
      | refine LeO.bind ?_ (fun _ => ?_)
    · intro y0 y1 y2
      unfold plaitref19_number.l0
      repeat' first
      | (with_reducible exact ih0 _ _)
      | (with_reducible exact ih1 _ _ _)
      | (with_reducible exact LeO.refl _)
      | (with_reducible exact LeO.none _)
      | (with_reducible refine LeO.ite ?_ ?_)
      | (with_reducible refine LeO.bind ?_ (fun _ => ?_))
      | exact ih0 _ _
      | exact ih1 _ _ _
      | exact LeO.none _
      | refine LeO.ite ?_ ?_
      | refine LeO.bind ?_ (fun _ => ?_)
theorem plaitref19_number.mono : ∀ a0 k, LeO (plaitref19_number.f k a0) (plaitref19_number.f (k + 1) a0) := by
  intro a0 k
  obtain ⟨ih0, ih1⟩ := plaitref19_number.mono_l k
  unfold plaitref19_number.f
  repeat' first
      | (with_reducible exact ih0 _ _)
      | (with_reducible exact ih1 _ _ _)
      | (with_reducible exact LeO.refl _)
      | (with_reducible exact LeO.none _)
      | (with_reducible refine LeO.ite ?_ ?_)
      | (with_reducible refine LeO.bind ?_ (fun _ => ?_))
      | exact ih0 _ _
      | exact ih1 _ _ _
      | exact LeO.none _
      | refine LeO.ite ?_ ?_
      | refine LeO.bind ?_ (fun _ => ?_)
set_option maxHeartbeats 8000000 in
set_option maxRecDepth 100000 in
theorem plaitref19_number.calls (k : Nat) (a0 : ByteArray) (r1 : Int) (r2 : Bool) (w : World) (h : plaitref19_number.f k a0 = some (r1, r2)) :
    Calls Tryz.prog 48 #[.string a0] w fun e w' => e = .returned (.tuple #[.int .i64 r1, .bool r2]) ∧ Drawn0 w w' := by
  have H : (if (a0.size : Int) = 0 then (plaitref19_number.j0 k a0 true) else (if (a0.size : Int) > 9 then (plaitref19_number.j0 k a0 true) else (if (a0.size : Int) > 1 then (if 0 < (a0.size : Int) then (plaitref19_number.j0 k a0 ((bt a0 0) == 48)) else (none)) else (plaitref19_number.j0 k a0 false)))) = some (r1, r2) := h
  clear h
  have HC2 := Aside0.mk H
  clear H
  go_enter Tryz.func48, Tryz.ntmps48
  go_upto_region 1 with (fail)
  go_cut [23] (fun v23 wc => ∃ (kq : Nat) (x23_1 : Bool), v23 = .bool x23_1 ∧ Aside0 (plaitref19_number.j0 kq a0 x23_1 = some (r1, r2)) ∧ Aside0 (kq ≤ k) ∧ Drawn0 w wc)
  case first =>
    have H := HC2.out
    clear HC2
    by_cases c3 : (a0.size : Int) = 0
    · rw [if_pos c3] at H
      have c3b0 : ((a0.size : Int) == 0) = true := beq_iff_eq.mpr c3
      have c3b1 : ((a0.size : Int) != 0) = false := bne_eq_false_iff_eq.mpr c3
      clear c3
      (first | rw [c3b0] | (simp only [i64_w, i32_w]; rw [c3b0]) | skip)
      have H' := Aside0.mk H
      clear H
      go_wp2
      go_meet
      case rel => exact ⟨_, (true), (by first | rfl | (simp; done) | (simp [*]; done)), H', ⟨by first | omega | exact Nat.le_refl _⟩, by repeat (first | exact Drawn0.refl _ | apply Drawn0.step)⟩
    · rw [if_neg c3] at H
      have c3b0 : ((a0.size : Int) == 0) = false := beq_eq_false_iff_ne.mpr c3
      have c3b1 : ((a0.size : Int) != 0) = true := bne_iff_ne.mpr c3
      (first | rw [c3b0] | (simp only [i64_w, i32_w]; rw [c3b0]) | skip)
      by_cases c4 : (a0.size : Int) > 9
      · rw [if_pos c4] at H
        have c4b0 : decide (9 < (a0.size : Int)) = true := decide_eq_true c4
        have c4b1 : decide (9 < a0.size) = true := decide_eq_true (by omega)
        clear c4
        have H' := Aside0.mk H
        clear H
        go_wp2
        go_meet
        case rel => exact ⟨_, (true), (by first | rfl | (simp; done) | (simp [*]; done)), H', ⟨by first | omega | exact Nat.le_refl _⟩, by repeat (first | exact Drawn0.refl _ | apply Drawn0.step)⟩
      · rw [if_neg c4] at H
        have c4b0 : decide (9 < (a0.size : Int)) = false := decide_eq_false c4
        have c4b1 : decide (9 < a0.size) = false := decide_eq_false (by omega)
        clear c4
        by_cases c5 : (a0.size : Int) > 1
        · rw [if_pos c5] at H
          have c5b0 : decide (1 < (a0.size : Int)) = true := decide_eq_true c5
          have c5b1 : decide (1 < a0.size) = true := decide_eq_true (by omega)
          clear c5
          by_cases c6 : 0 < (a0.size : Int)
          · rw [if_pos c6] at H
            have c6b0 : decide (0 < (a0.size : Int)) = true := decide_eq_true c6
            have c6b1 : decide (0 < a0.size) = true := decide_eq_true (by omega)
            clear c6
            have H' := Aside0.mk H
            clear H
            have p7 : 0 ≤ (0 : Int) := (by omega)
            have q7 : 0 < a0.size := (by have : (0 : Int) < (a0.size : Int) := of_decide_eq_true (by first | (with_reducible assumption) | assumption); omega)
            have hx7 : ∀ h : 0 < a0.size, ((a0[0]'h).toNat : Int) = bt a0 0 := bt_at a0 0
            clear p7
            have qi7 : (0 < (a0.size : Int)) = True := eq_true (of_decide_eq_true (by first | (with_reducible assumption) | assumption))
            replace q7 := eq_true q7
            go_wp2
            go_meet
            case rel => exact ⟨_, (((bt a0 0) == 48)), (by first | rfl | (simp; done) | (simp [*]; done)), H', ⟨by first | omega | exact Nat.le_refl _⟩, by repeat (first | exact Drawn0.refl _ | apply Drawn0.step)⟩
          · rw [if_neg c6] at H
            exact absurd H (by simp)
        · rw [if_neg c5] at H
          have c5b0 : decide (1 < (a0.size : Int)) = false := decide_eq_false c5
          have c5b1 : decide (1 < a0.size) = false := decide_eq_false (by omega)
          clear c5
          have H' := Aside0.mk H
          clear H
          go_wp2
          go_meet
          case rel => exact ⟨_, (false), (by first | rfl | (simp; done) | (simp [*]; done)), H', ⟨by first | omega | exact Nat.le_refl _⟩, by repeat (first | exact Drawn0.refl _ | apply Drawn0.step)⟩
  case rest =>
    clear HC2
    try clear p2
    try clear c3
    try clear c3b0
    try clear c3b1
    try clear c4
    try clear c4b0
    try clear c4b1
    try clear c5
    try clear c5b0
    try clear c5b1
    try clear c6
    try clear c6b0
    try clear c6b1
    try clear p7
    try clear q7
    try clear hx7
    try clear qi7
    try clear p7
    try clear q7
    obtain ⟨kq, x23_1, rfl, HA, HJ1, ⟨mc1, rfl⟩⟩ := hcut
    cases kq with
    | zero => exact absurd HA.out (by simp [plaitref19_number.j0])
    | succ kj1 =>
      have H := HA.out
      clear HA
      simp only [plaitref19_number.j0] at H
      by_cases c8 : x23_1 = true
      · subst c8
        have H1 : (some (0, false)) = some (r1, r2) := by rw [if_pos rfl] at H; exact H
        clear H
        have H := H1
        clear H1
        simp only [Option.some.injEq, Prod.mk.injEq] at H
        obtain ⟨rfl, rfl⟩ := H
        go_wp2
        go_ret2
        exact ⟨by first | rfl | (simp; done) | (simp [*]; done), by repeat (first | exact Drawn0.refl _ | apply Drawn0.step)⟩
      · replace c8 := Bool.eq_false_iff.mpr c8
        subst c8
        have H1 : (plaitref19_number.l0 kj1 a0 0 0) = some (r1, r2) := by rw [if_neg (show ¬ (false = true) by decide)] at H; exact H
        clear H
        have H := H1
        clear H1
        have H' := Aside0.mk H
        clear H
        go_wp2
        go_loopg [4, 5] kj1 (fun kq v4 v5 w' => ∃ (x4_2 : Int) (x5_2 : Int), v4 = .int .i64 x4_2 ∧ v5 = .int .i64 x5_2 ∧ Aside0 (plaitref19_number.l0 kq a0 x4_2 x5_2 = some (r1, r2)) ∧ Aside0 (kq ≤ kj1) ∧ Drawn0 w w')
        case atStart => exact ⟨(0), (0), (by first | rfl | (simp; done) | (simp [*]; done)), (by first | rfl | (simp; done) | (simp [*]; done)), H', ⟨Nat.le_refl _⟩, by repeat (first | exact Drawn0.refl _ | apply Drawn0.step)⟩
        case round =>
          clear H'
          try clear c1
          try clear p2
          try clear c3
          try clear c3b0
          try clear c3b1
          try clear c4
          try clear c4b0
          try clear c4b1
          try clear c5
          try clear c5b0
          try clear c5b1
          try clear c6
          try clear c6b0
          try clear c6b1
          try clear p7
          try clear q7
          try clear hx7
          try clear qi7
          try clear c8
          try clear p2
          try clear p7
          try clear q7
          obtain ⟨x4_2, x5_2, rfl, rfl, HA, HK2, ⟨m2, rfl⟩⟩ := hrel
          cases gk with
          | zero => exact absurd HA.out (by simp [plaitref19_number.l0])
          | succ k2 =>
            have H := HA.out
            clear HA
            simp only [plaitref19_number.l0] at H
            by_cases c9 : x5_2 < (a0.size : Int)
            · rw [if_pos c9] at H
              have c9b0 : decide (x5_2 < (a0.size : Int)) = true := decide_eq_true c9
              clear c9
              by_cases c10 : 0 ≤ x5_2
              · rw [if_pos c10] at H
                have c10b0 : decide (0 ≤ x5_2) = true := decide_eq_true c10
                clear c10
                by_cases c12 : (bt a0 x5_2) < 48
                · rw [if_pos c12] at H
                  have c12b0 : decide ((bt a0 x5_2) < 48) = true := decide_eq_true c12
                  clear c12
                  simp only [Option.some.injEq, Prod.mk.injEq] at H
                  obtain ⟨rfl, rfl⟩ := H
                  have p11 : 0 ≤ (x5_2 : Int) := of_decide_eq_true (by first | (with_reducible assumption) | assumption)
                  have q11 : x5_2 < (a0.size : Int) := of_decide_eq_true (by first | (with_reducible assumption) | assumption)
                  have hx11 := bt_at a0 x5_2
                  replace p11 := eq_true p11
                  replace q11 := eq_true q11
                  go_wp2
                  go_ret2
                  exact ⟨by first | rfl | (simp; done) | (simp [*]; done), by repeat (first | exact Drawn0.refl _ | apply Drawn0.step)⟩
                · rw [if_neg c12] at H
                  have c12b0 : decide ((bt a0 x5_2) < 48) = false := decide_eq_false c12
                  clear c12
                  by_cases c14 : (bt a0 x5_2) > 57
                  · rw [if_pos c14] at H
                    have c14b0 : decide (57 < (bt a0 x5_2)) = true := decide_eq_true c14
                    clear c14
                    simp only [Option.some.injEq, Prod.mk.injEq] at H
                    obtain ⟨rfl, rfl⟩ := H
                    have p11 : 0 ≤ (x5_2 : Int) := of_decide_eq_true (by first | (with_reducible assumption) | assumption)
                    have q11 : x5_2 < (a0.size : Int) := of_decide_eq_true (by first | (with_reducible assumption) | assumption)
                    have hx11 := bt_at a0 x5_2
                    replace p11 := eq_true p11
                    replace q11 := eq_true q11
                    have p13 : 0 ≤ (x5_2 : Int) := of_decide_eq_true (by first | (with_reducible assumption) | assumption)
                    have q13 : x5_2 < (a0.size : Int) := of_decide_eq_true (by first | (with_reducible assumption) | assumption)
                    have hx13 := bt_at a0 x5_2
                    replace p13 := eq_true p13
                    replace q13 := eq_true q13
                    go_wp2
                    go_ret2
                    exact ⟨by first | rfl | (simp; done) | (simp [*]; done), by repeat (first | exact Drawn0.refl _ | apply Drawn0.step)⟩
                  · rw [if_neg c14] at H
                    have c14b0 : decide (57 < (bt a0 x5_2)) = false := decide_eq_false c14
                    clear c14
                    have H' := Aside0.mk H
                    clear H
                    have p11 : 0 ≤ (x5_2 : Int) := of_decide_eq_true (by first | (with_reducible assumption) | assumption)
                    have q11 : x5_2 < (a0.size : Int) := of_decide_eq_true (by first | (with_reducible assumption) | assumption)
                    have hx11 := bt_at a0 x5_2
                    replace p11 := eq_true p11
                    replace q11 := eq_true q11
                    have p13 : 0 ≤ (x5_2 : Int) := of_decide_eq_true (by first | (with_reducible assumption) | assumption)
                    have q13 : x5_2 < (a0.size : Int) := of_decide_eq_true (by first | (with_reducible assumption) | assumption)
                    have hx13 := bt_at a0 x5_2
                    replace p13 := eq_true p13
                    replace q13 := eq_true q13
                    have p15 : 0 ≤ (x5_2 : Int) := of_decide_eq_true (by first | (with_reducible assumption) | assumption)
                    have q15 : x5_2 < (a0.size : Int) := of_decide_eq_true (by first | (with_reducible assumption) | assumption)
                    have hx15 := bt_at a0 x5_2
                    replace p15 := eq_true p15
                    replace q15 := eq_true q15
                    go_wp2
                    go_roundg k2
                    case measure => have := HJ1.out; have := HK2.out; omega
                    case rel => exact ⟨(wrap64 ((wrap64 (10 * x4_2)) + (((bt a0 x5_2) - 48) % 256))), (wrap64 (x5_2 + 1)), (by first | rfl | (simp; done) | (simp [*]; done)), (by first | rfl | (simp; done) | (simp [*]; done)), H', ⟨by have := HJ1.out; have := HK2.out; omega⟩, by repeat (first | exact Drawn0.refl _ | apply Drawn0.step)⟩
              · rw [if_neg c10] at H
                exact absurd H (by simp)
            · rw [if_neg c9] at H
              have c9b0 : decide (x5_2 < (a0.size : Int)) = false := decide_eq_false c9
              clear c9
              simp only [Option.some.injEq, Prod.mk.injEq] at H
              obtain ⟨rfl, rfl⟩ := H
              go_wp2
              go_ret2
              exact ⟨by first | rfl | (simp; done) | (simp [*]; done), by repeat (first | exact Drawn0.refl _ | apply Drawn0.step)⟩
/-! ### plaitref19_Parse: function 14 -/
mutual
def plaitref19_Parse.l0 : Nat → List ByteArray → Bool → Int → Int → List (List Int) → List Int → Bool → Int → Option ((List (List Int)) × Int × Int × Int)
  | 0, _, _, _, _, _, _, _, _ => none
  | k + 1, x6, x7, x8, x9, x10, x11, x12, x13 => if x13 < (x6.length : Int) then (if 0 ≤ x13 then ((plaitref19_words.f k (rdOf ByteArray.empty x6 x13)).bind fun t281 => (if (t281.length : Int) = 0 then (plaitref19_Parse.j1 k x6 x7 x8 x9 x10 x11 x12 x13 t281 true) else (if 0 < (t281.length : Int) then (plaitref19_Parse.j1 k x6 x7 x8 x9 x10 x11 x12 x13 t281 ((rdOf ByteArray.empty t281 0).toList == ([99] : List UInt8))) else (none)))) else (none)) else (if x7 = true then (if x12 = true then (some (([] : List (List Int)), 0, wrap64 ((x6.length : Int) - 1), 190)) else (if (x10.length : Int) < x9 then (some (([] : List (List Int)), 0, wrap64 ((x6.length : Int) - 1), 190)) else (some (x10, x8, 0, 0)))) else (some (([] : List (List Int)), 0, wrap64 ((x6.length : Int) - 1), 190)))
def plaitref19_Parse.j1 : Nat → List ByteArray → Bool → Int → Int → List (List Int) → List Int → Bool → Int → List ByteArray → Bool → Option ((List (List Int)) × Int × Int × Int)
  | 0, _, _, _, _, _, _, _, _, _, _ => none
  | k + 1, x6, x7, x8, x9, x10, x11, x12, x13, x14, x49 => if x49 = true then (plaitref19_Parse.l0 k x6 x7 x8 x9 x10 x11 x12 (wrap64 (x13 + 1))) else (if x7 = true then (plaitref19_Parse.l1 k x6 x7 x8 x9 x10 x11 x12 x13 x14 0) else (if (x14.length : Int) = 4 then (if 0 < (x14.length : Int) then (if (rdOf ByteArray.empty x14 0).toList = ([112] : List UInt8) then (if 1 < (x14.length : Int) then (plaitref19_Parse.j2 k x6 x10 x11 x12 x13 x14 ((rdOf ByteArray.empty x14 1).toList == ([99, 110, 102] : List UInt8))) else (none)) else (plaitref19_Parse.j2 k x6 x10 x11 x12 x13 x14 false)) else (none)) else (plaitref19_Parse.j2 k x6 x10 x11 x12 x13 x14 false)))
def plaitref19_Parse.l1 : Nat → List ByteArray → Bool → Int → Int → List (List Int) → List Int → Bool → Int → List ByteArray → Int → Option ((List (List Int)) × Int × Int × Int)
  | 0, _, _, _, _, _, _, _, _, _, _ => none
  | k + 1, x6, x7, x8, x9, x10, x11, x12, x13, x14, x20 => if x20 < (x14.length : Int) then (if 0 ≤ x20 then (if ((rdOf ByteArray.empty x14 x20).size : Int) > 1 then (if 0 < ((rdOf ByteArray.empty x14 x20).size : Int) then (plaitref19_Parse.j4 k x6 x7 x8 x9 x10 x11 x13 x14 x20 ((bt (rdOf ByteArray.empty x14 x20) 0) == 45)) else (none)) else (plaitref19_Parse.j4 k x6 x7 x8 x9 x10 x11 x13 x14 x20 false)) else (none)) else (plaitref19_Parse.l0 k x6 x7 x8 x9 x10 x11 x12 (wrap64 (x13 + 1)))
def plaitref19_Parse.j4 : Nat → List ByteArray → Bool → Int → Int → List (List Int) → List Int → Int → List ByteArray → Int → Bool → Option ((List (List Int)) × Int × Int × Int)
  | 0, _, _, _, _, _, _, _, _, _, _ => none
  | k + 1, x6, x7, x8, x9, x10, x11, x13, x14, x20, x21 => if 0 ≤ x20 then (if x20 < (x14.length : Int) then (if x21 = true then (if 1 ≤ ((rdOf ByteArray.empty x14 x20).size : Int) then (plaitref19_Parse.j5 k x6 x7 x8 x9 x10 x11 x13 x14 x20 x21 ((rdOf ByteArray.empty x14 x20).extract 1 (rdOf ByteArray.empty x14 x20).size)) else (none)) else (plaitref19_Parse.j5 k x6 x7 x8 x9 x10 x11 x13 x14 x20 x21 (rdOf ByteArray.empty x14 x20))) else (none)) else (none)
def plaitref19_Parse.j5 : Nat → List ByteArray → Bool → Int → Int → List (List Int) → List Int → Int → List ByteArray → Int → Bool → ByteArray → Option ((List (List Int)) × Int × Int × Int)
  | 0, _, _, _, _, _, _, _, _, _, _, _ => none
  | k + 1, x6, x7, x8, x9, x10, x11, x13, x14, x20, x21, x22 => (plaitref19_number.f k x22).bind fun bt296 => (if bt296.2 = true then (if bt296.1 > x8 then (plaitref19_Parse.j6 k x6 x7 x8 x9 x10 x11 x13 x14 x20 x21 bt296.1 true) else (if x21 = true then (if bt296.1 = 0 then (plaitref19_Parse.j6 k x6 x7 x8 x9 x10 x11 x13 x14 x20 x21 bt296.1 true) else (plaitref19_Parse.j6 k x6 x7 x8 x9 x10 x11 x13 x14 x20 x21 bt296.1 ((x10.length : Int) == x9))) else (plaitref19_Parse.j6 k x6 x7 x8 x9 x10 x11 x13 x14 x20 x21 bt296.1 ((x10.length : Int) == x9)))) else (plaitref19_Parse.j6 k x6 x7 x8 x9 x10 x11 x13 x14 x20 x21 bt296.1 true))
def plaitref19_Parse.j6 : Nat → List ByteArray → Bool → Int → Int → List (List Int) → List Int → Int → List ByteArray → Int → Bool → Int → Bool → Option ((List (List Int)) × Int × Int × Int)
  | 0, _, _, _, _, _, _, _, _, _, _, _, _ => none
  | k + 1, x6, x7, x8, x9, x10, x11, x13, x14, x20, x21, x23, x146 => if x146 = true then (some (([] : List (List Int)), 0, x13, 190)) else (if x23 = 0 then (if x10.length < 5864062014805 then (plaitref19_Parse.l1 k x6 x7 x8 x9 (x10 ++ [x11]) ([] : List Int) false x13 x14 (wrap64 (x20 + 1))) else (none)) else (if x21 = true then (if x11.length < 17592186044416 then (plaitref19_Parse.l1 k x6 x7 x8 x9 x10 (x11 ++ [wrap64 (-x23)]) true x13 x14 (wrap64 (x20 + 1))) else (none)) else (if x11.length < 17592186044416 then (plaitref19_Parse.l1 k x6 x7 x8 x9 x10 (x11 ++ [x23]) true x13 x14 (wrap64 (x20 + 1))) else (none))))
def plaitref19_Parse.j2 : Nat → List ByteArray → List (List Int) → List Int → Bool → Int → List ByteArray → Bool → Option ((List (List Int)) × Int × Int × Int)
  | 0, _, _, _, _, _, _, _ => none
  | k + 1, x6, x10, x11, x12, x13, x14, x15 => if x15 = true then (if 2 < (x14.length : Int) then ((plaitref19_number.f k (rdOf ByteArray.empty x14 2)).bind fun bt288 => (if 3 < (x14.length : Int) then ((plaitref19_number.f k (rdOf ByteArray.empty x14 3)).bind fun bt291 => (if bt288.2 = true then (if bt291.2 = true then (if bt288.1 ≤ 65536 then (plaitref19_Parse.l0 k x6 true bt288.1 bt291.1 x10 x11 x12 (wrap64 (x13 + 1))) else (some (([] : List (List Int)), 0, x13, 190))) else (some (([] : List (List Int)), 0, x13, 190))) else (some (([] : List (List Int)), 0, x13, 190)))) else (none))) else (none)) else (some (([] : List (List Int)), 0, x13, 190))
end
def plaitref19_Parse.f (k : Nat) (a0 : ByteArray) : Option ((List (List Int)) × Int × Int × Int) := if (a0.size : Int) > 65536 then (some (([] : List (List Int)), 0, 0, 191)) else ((plaitref19_lines.f k a0).bind fun t277 => (plaitref19_Parse.l0 k t277 false 0 0 ([] : List (List Int)) ([] : List Int) false 0))
theorem plaitref19_Parse.mono_l : ∀ k, (∀ y0 y1 y2 y3 y4 y5 y6 y7, LeO (plaitref19_Parse.l0 k y0 y1 y2 y3 y4 y5 y6 y7) (plaitref19_Parse.l0 (k + 1) y0 y1 y2 y3 y4 y5 y6 y7)) ∧ (∀ y0 y1 y2 y3 y4 y5 y6 y7 y8 y9, LeO (plaitref19_Parse.j1 k y0 y1 y2 y3 y4 y5 y6 y7 y8 y9) (plaitref19_Parse.j1 (k + 1) y0 y1 y2 y3 y4 y5 y6 y7 y8 y9)) ∧ (∀ y0 y1 y2 y3 y4 y5 y6 y7 y8 y9, LeO (plaitref19_Parse.l1 k y0 y1 y2 y3 y4 y5 y6 y7 y8 y9) (plaitref19_Parse.l1 (k + 1) y0 y1 y2 y3 y4 y5 y6 y7 y8 y9)) ∧ (∀ y0 y1 y2 y3 y4 y5 y6 y7 y8 y9, LeO (plaitref19_Parse.j4 k y0 y1 y2 y3 y4 y5 y6 y7 y8 y9) (plaitref19_Parse.j4 (k + 1) y0 y1 y2 y3 y4 y5 y6 y7 y8 y9)) ∧ (∀ y0 y1 y2 y3 y4 y5 y6 y7 y8 y9 y10, LeO (plaitref19_Parse.j5 k y0 y1 y2 y3 y4 y5 y6 y7 y8 y9 y10) (plaitref19_Parse.j5 (k + 1) y0 y1 y2 y3 y4 y5 y6 y7 y8 y9 y10)) ∧ (∀ y0 y1 y2 y3 y4 y5 y6 y7 y8 y9 y10 y11, LeO (plaitref19_Parse.j6 k y0 y1 y2 y3 y4 y5 y6 y7 y8 y9 y10 y11) (plaitref19_Parse.j6 (k + 1) y0 y1 y2 y3 y4 y5 y6 y7 y8 y9 y10 y11)) ∧ (∀ y0 y1 y2 y3 y4 y5 y6, LeO (plaitref19_Parse.j2 k y0 y1 y2 y3 y4 y5 y6) (plaitref19_Parse.j2 (k + 1) y0 y1 y2 y3 y4 y5 y6))
  | 0 => ⟨fun _ _ _ _ _ _ _ _ r h => by simp [plaitref19_Parse.l0] at h, fun _ _ _ _ _ _ _ _ _ _ r h => by simp [plaitref19_Parse.j1] at h, fun _ _ _ _ _ _ _ _ _ _ r h => by simp [plaitref19_Parse.l1] at h, fun _ _ _ _ _ _ _ _ _ _ r h => by simp [plaitref19_Parse.j4] at h, fun _ _ _ _ _ _ _ _ _ _ _ r h => by simp [plaitref19_Parse.j5] at h, fun _ _ _ _ _ _ _ _ _ _ _ _ r h => by simp [plaitref19_Parse.j6] at h, fun _ _ _ _ _ _ _ r h => by simp [plaitref19_Parse.j2] at h⟩
  | k + 1 => by
    obtain ⟨ih0, ih1, ih2, ih3, ih4, ih5, ih6⟩ := plaitref19_Parse.mono_l k
    refine ⟨?_, ?_, ?_, ?_, ?_, ?_, ?_⟩
    · intro y0 y1 y2 y3 y4 y5 y6 y7
      unfold plaitref19_Parse.l0
      repeat' first
      | (with_reducible exact ih0 _ _ _ _ _ _ _ _)
      | (with_reducible exact ih1 _ _ _ _ _ _ _ _ _ _)
      | (with_reducible exact ih2 _ _ _ _ _ _ _ _ _ _)
      | (with_reducible exact ih3 _ _ _ _ _ _ _ _ _ _)
      | (with_reducible exact ih4 _ _ _ _ _ _ _ _ _ _ _)
      | (with_reducible exact ih5 _ _ _ _ _ _ _ _ _ _ _ _)
      | (with_reducible exact ih6 _ _ _ _ _ _ _)
      | (with_reducible exact plaitref19_lines.mono _ _)
      | (with_reducible exact plaitref19_number.mono _ _)
      | (with_reducible exact plaitref19_words.mono _ _)
      | (with_reducible exact LeO.refl _)
      | (with_reducible exact LeO.none _)
      | (with_reducible refine LeO.ite ?_ ?_)
      | (with_reducible refine LeO.bind ?_ (fun _ => ?_))
      | exact ih0 _ _ _ _ _ _ _ _
      | exact ih1 _ _ _ _ _ _ _ _ _ _
      | exact ih2 _ _ _ _ _ _ _ _ _ _
      | exact ih3 _ _ _ _ _ _ _ _ _ _
      | exact ih4 _ _ _ _ _ _ _ _ _ _ _
      | exact ih5 _ _ _ _ _ _ _ _ _ _ _ _
      | exact ih6 _ _ _ _ _ _ _
      | exact plaitref19_lines.mono _ _
      | exact plaitref19_number.mono _ _
      | exact plaitref19_words.mono _ _
      | exact LeO.none _
      | refine LeO.ite ?_ ?_
      | refine LeO.bind ?_ (fun _ => ?_)
    · intro y0 y1 y2 y3 y4 y5 y6 y7 y8 y9
      unfold plaitref19_Parse.j1
      repeat' first
      | (with_reducible exact ih0 _ _ _ _ _ _ _ _)
      | (with_reducible exact ih1 _ _ _ _ _ _ _ _ _ _)
      | (with_reducible exact ih2 _ _ _ _ _ _ _ _ _ _)
      | (with_reducible exact ih3 _ _ _ _ _ _ _ _ _ _)
      | (with_reducible exact ih4 _ _ _ _ _ _ _ _ _ _ _)
      | (with_reducible exact ih5 _ _ _ _ _ _ _ _ _ _ _ _)
      | (with_reducible exact ih6 _ _ _ _ _ _ _)
      | (with_reducible exact plaitref19_lines.mono _ _)
      | (with_reducible exact plaitref19_number.mono _ _)
      | (with_reducible exact plaitref19_words.mono _ _)
      | (with_reducible exact LeO.refl _)
      | (with_reducible exact LeO.none _)
      | (with_reducible refine LeO.ite ?_ ?_)
      | (with_reducible refine LeO.bind ?_ (fun _ => ?_))
      | exact ih0 _ _ _ _ _ _ _ _
      | exact ih1 _ _ _ _ _ _ _ _ _ _
      | exact ih2 _ _ _ _ _ _ _ _ _ _
      | exact ih3 _ _ _ _ _ _ _ _ _ _
      | exact ih4 _ _ _ _ _ _ _ _ _ _ _
      | exact ih5 _ _ _ _ _ _ _ _ _ _ _ _
      | exact ih6 _ _ _ _ _ _ _
      | exact plaitref19_lines.mono _ _
      | exact plaitref19_number.mono _ _
      | exact plaitref19_words.mono _ _
      | exact LeO.none _
      | refine LeO.ite ?_ ?_
      | refine LeO.bind ?_ (fun _ => ?_)
    · intro y0 y1 y2 y3 y4 y5 y6 y7 y8 y9
      unfold plaitref19_Parse.l1
      repeat' first
      | (with_reducible exact ih0 _ _ _ _ _ _ _ _)
      | (with_reducible exact ih1 _ _ _ _ _ _ _ _ _ _)
      | (with_reducible exact ih2 _ _ _ _ _ _ _ _ _ _)
      | (with_reducible exact ih3 _ _ _ _ _ _ _ _ _ _)
      | (with_reducible exact ih4 _ _ _ _ _ _ _ _ _ _ _)
      | (with_reducible exact ih5 _ _ _ _ _ _ _ _ _ _ _ _)
      | (with_reducible exact ih6 _ _ _ _ _ _ _)
      | (with_reducible exact plaitref19_lines.mono _ _)
      | (with_reducible exact plaitref19_number.mono _ _)
      | (with_reducible exact plaitref19_words.mono _ _)
      | (with_reducible exact LeO.refl _)
      | (with_reducible exact LeO.none _)
      | (with_reducible refine LeO.ite ?_ ?_)
      | (with_reducible refine LeO.bind ?_ (fun _ => ?_))
      | exact ih0 _ _ _ _ _ _ _ _
      | exact ih1 _ _ _ _ _ _ _ _ _ _
      | exact ih2 _ _ _ _ _ _ _ _ _ _
      | exact ih3 _ _ _ _ _ _ _ _ _ _
      | exact ih4 _ _ _ _ _ _ _ _ _ _ _
      | exact ih5 _ _ _ _ _ _ _ _ _ _ _ _
      | exact ih6 _ _ _ _ _ _ _
      | exact plaitref19_lines.mono _ _
      | exact plaitref19_number.mono _ _
      | exact plaitref19_words.mono _ _
      | exact LeO.none _
      | refine LeO.ite ?_ ?_
      | refine LeO.bind ?_ (fun _ => ?_)
    · intro y0 y1 y2 y3 y4 y5 y6 y7 y8 y9
      unfold plaitref19_Parse.j4
      repeat' first
      | (with_reducible exact ih0 _ _ _ _ _ _ _ _)
      | (with_reducible exact ih1 _ _ _ _ _ _ _ _ _ _)
      | (with_reducible exact ih2 _ _ _ _ _ _ _ _ _ _)
      | (with_reducible exact ih3 _ _ _ _ _ _ _ _ _ _)
      | (with_reducible exact ih4 _ _ _ _ _ _ _ _ _ _ _)
      | (with_reducible exact ih5 _ _ _ _ _ _ _ _ _ _ _ _)
      | (with_reducible exact ih6 _ _ _ _ _ _ _)
      | (with_reducible exact plaitref19_lines.mono _ _)
      | (with_reducible exact plaitref19_number.mono _ _)
      | (with_reducible exact plaitref19_words.mono _ _)
      | (with_reducible exact LeO.refl _)
      | (with_reducible exact LeO.none _)
      | (with_reducible refine LeO.ite ?_ ?_)
      | (with_reducible refine LeO.bind ?_ (fun _ => ?_))
      | exact ih0 _ _ _ _ _ _ _ _
      | exact ih1 _ _ _ _ _ _ _ _ _ _
      | exact ih2 _ _ _ _ _ _ _ _ _ _
      | exact ih3 _ _ _ _ _ _ _ _ _ _
      | exact ih4 _ _ _ _ _ _ _ _ _ _ _
      | exact ih5 _ _ _ _ _ _ _ _ _ _ _ _
      | exact ih6 _ _ _ _ _ _ _
      | exact plaitref19_lines.mono _ _
      | exact plaitref19_number.mono _ _
      | exact plaitref19_words.mono _ _
      | exact LeO.none _
      | refine LeO.ite ?_ ?_
      | refine LeO.bind ?_ (fun _ => ?_)
    · intro y0 y1 y2 y3 y4 y5 y6 y7 y8 y9 y10
      unfold plaitref19_Parse.j5
      repeat' first
      | (with_reducible exact ih0 _ _ _ _ _ _ _ _)
      | (with_reducible exact ih1 _ _ _ _ _ _ _ _ _ _)
      | (with_reducible exact ih2 _ _ _ _ _ _ _ _ _ _)
      | (with_reducible exact ih3 _ _ _ _ _ _ _ _ _ _)
      | (with_reducible exact ih4 _ _ _ _ _ _ _ _ _ _ _)
      | (with_reducible exact ih5 _ _ _ _ _ _ _ _ _ _ _ _)
      | (with_reducible exact ih6 _ _ _ _ _ _ _)
      | (with_reducible exact plaitref19_lines.mono _ _)
      | (with_reducible exact plaitref19_number.mono _ _)
      | (with_reducible exact plaitref19_words.mono _ _)
      | (with_reducible exact LeO.refl _)
      | (with_reducible exact LeO.none _)
      | (with_reducible refine LeO.ite ?_ ?_)
      | (with_reducible refine LeO.bind ?_ (fun _ => ?_))
      | exact ih0 _ _ _ _ _ _ _ _
      | exact ih1 _ _ _ _ _ _ _ _ _ _
      | exact ih2 _ _ _ _ _ _ _ _ _ _
      | exact ih3 _ _ _ _ _ _ _ _ _ _
      | exact ih4 _ _ _ _ _ _ _ _ _ _ _
      | exact ih5 _ _ _ _ _ _ _ _ _ _ _ _
      | exact ih6 _ _ _ _ _ _ _
      | exact plaitref19_lines.mono _ _
      | exact plaitref19_number.mono _ _
      | exact plaitref19_words.mono _ _
      | exact LeO.none _
      | refine LeO.ite ?_ ?_
      | refine LeO.bind ?_ (fun _ => ?_)
    · intro y0 y1 y2 y3 y4 y5 y6 y7 y8 y9 y10 y11
      unfold plaitref19_Parse.j6
      repeat' first
      | (with_reducible exact ih0 _ _ _ _ _ _ _ _)
      | (with_reducible exact ih1 _ _ _ _ _ _ _ _ _ _)
      | (with_reducible exact ih2 _ _ _ _ _ _ _ _ _ _)
      | (with_reducible exact ih3 _ _ _ _ _ _ _ _ _ _)
      | (with_reducible exact ih4 _ _ _ _ _ _ _ _ _ _ _)
      | (with_reducible exact ih5 _ _ _ _ _ _ _ _ _ _ _ _)
      | (with_reducible exact ih6 _ _ _ _ _ _ _)
      | (with_reducible exact plaitref19_lines.mono _ _)
      | (with_reducible exact plaitref19_number.mono _ _)
      | (with_reducible exact plaitref19_words.mono _ _)
      | (with_reducible exact LeO.refl _)
      | (with_reducible exact LeO.none _)
      | (with_reducible refine LeO.ite ?_ ?_)
      | (with_reducible refine LeO.bind ?_ (fun _ => ?_))
      | exact ih0 _ _ _ _ _ _ _ _
      | exact ih1 _ _ _ _ _ _ _ _ _ _
      | exact ih2 _ _ _ _ _ _ _ _ _ _
      | exact ih3 _ _ _ _ _ _ _ _ _ _
      | exact ih4 _ _ _ _ _ _ _ _ _ _ _
      | exact ih5 _ _ _ _ _ _ _ _ _ _ _ _
      | exact ih6 _ _ _ _ _ _ _
      | exact plaitref19_lines.mono _ _
      | exact plaitref19_number.mono _ _
      | exact plaitref19_words.mono _ _
      | exact LeO.none _
      | refine LeO.ite ?_ ?_
      | refine LeO.bind ?_ (fun _ => ?_)
    · intro y0 y1 y2 y3 y4 y5 y6
      unfold plaitref19_Parse.j2
      repeat' first
      | (with_reducible exact ih0 _ _ _ _ _ _ _ _)
      | (with_reducible exact ih1 _ _ _ _ _ _ _ _ _ _)
      | (with_reducible exact ih2 _ _ _ _ _ _ _ _ _ _)
      | (with_reducible exact ih3 _ _ _ _ _ _ _ _ _ _)
      | (with_reducible exact ih4 _ _ _ _ _ _ _ _ _ _ _)
      | (with_reducible exact ih5 _ _ _ _ _ _ _ _ _ _ _ _)
      | (with_reducible exact ih6 _ _ _ _ _ _ _)
      | (with_reducible exact plaitref19_lines.mono _ _)
      | (with_reducible exact plaitref19_number.mono _ _)
      | (with_reducible exact plaitref19_words.mono _ _)
      | (with_reducible exact LeO.refl _)
      | (with_reducible exact LeO.none _)
      | (with_reducible refine LeO.ite ?_ ?_)
      | (with_reducible refine LeO.bind ?_ (fun _ => ?_))
      | exact ih0 _ _ _ _ _ _ _ _
      | exact ih1 _ _ _ _ _ _ _ _ _ _
      | exact ih2 _ _ _ _ _ _ _ _ _ _
      | exact ih3 _ _ _ _ _ _ _ _ _ _
      | exact ih4 _ _ _ _ _ _ _ _ _ _ _
      | exact ih5 _ _ _ _ _ _ _ _ _ _ _ _
      | exact ih6 _ _ _ _ _ _ _
      | exact plaitref19_lines.mono _ _
      | exact plaitref19_number.mono _ _
      | exact plaitref19_words.mono _ _
      | exact LeO.none _
      | refine LeO.ite ?_ ?_
      | refine LeO.bind ?_ (fun _ => ?_)
theorem plaitref19_Parse.mono : ∀ a0 k, LeO (plaitref19_Parse.f k a0) (plaitref19_Parse.f (k + 1) a0) := by
  intro a0 k
  obtain ⟨ih0, ih1, ih2, ih3, ih4, ih5, ih6⟩ := plaitref19_Parse.mono_l k
  unfold plaitref19_Parse.f
  repeat' first
      | (with_reducible exact ih0 _ _ _ _ _ _ _ _)
      | (with_reducible exact ih1 _ _ _ _ _ _ _ _ _ _)
      | (with_reducible exact ih2 _ _ _ _ _ _ _ _ _ _)
      | (with_reducible exact ih3 _ _ _ _ _ _ _ _ _ _)
      | (with_reducible exact ih4 _ _ _ _ _ _ _ _ _ _ _)
      | (with_reducible exact ih5 _ _ _ _ _ _ _ _ _ _ _ _)
      | (with_reducible exact ih6 _ _ _ _ _ _ _)
      | (with_reducible exact plaitref19_lines.mono _ _)
      | (with_reducible exact plaitref19_number.mono _ _)
      | (with_reducible exact plaitref19_words.mono _ _)
      | (with_reducible exact LeO.refl _)
      | (with_reducible exact LeO.none _)
      | (with_reducible refine LeO.ite ?_ ?_)
      | (with_reducible refine LeO.bind ?_ (fun _ => ?_))
      | exact ih0 _ _ _ _ _ _ _ _
      | exact ih1 _ _ _ _ _ _ _ _ _ _
      | exact ih2 _ _ _ _ _ _ _ _ _ _
      | exact ih3 _ _ _ _ _ _ _ _ _ _
      | exact ih4 _ _ _ _ _ _ _ _ _ _ _
      | exact ih5 _ _ _ _ _ _ _ _ _ _ _ _
      | exact ih6 _ _ _ _ _ _ _
      | exact plaitref19_lines.mono _ _
      | exact plaitref19_number.mono _ _
      | exact plaitref19_words.mono _ _
      | exact LeO.none _
      | refine LeO.ite ?_ ?_
      | refine LeO.bind ?_ (fun _ => ?_)
set_option maxHeartbeats 8000000 in
set_option maxRecDepth 100000 in
theorem plaitref19_Parse.calls (k : Nat) (a0 : ByteArray) (r1 : List (List Int)) (r2 : Int) (r3 : Int) (r4 : Int) (w : World) (h : plaitref19_Parse.f k a0 = some (r1, r2, r3, r4)) :
    Calls Tryz.prog 14 #[.string a0] w fun e w' => ∃ v0_ : Value, e = .returned (.tuple #[v0_, .int .i64 r2, .int .i64 r3, .int .i64 r4]) ∧ Kd.S (Kd.slice 3 (Kd.int .i64)) 61 w' w.heap.size (fun _ => True) v0_ r1 ∧ Below w.heap.size w w' := by
  have HB := Aside0.mk (Below.refl w.heap.size w)
  have H : (if (a0.size : Int) > 65536 then (some (([] : List (List Int)), 0, 0, 191)) else ((plaitref19_lines.f k a0).bind fun t277 => (plaitref19_Parse.l0 k t277 false 0 0 ([] : List (List Int)) ([] : List Int) false 0))) = some (r1, r2, r3, r4) := h
  clear h
  by_cases c2 : (a0.size : Int) > 65536
  · rw [if_pos c2] at H
    have c2b0 : decide (65536 < (a0.size : Int)) = true := decide_eq_true c2
    have c2b1 : decide (65536 < a0.size) = true := decide_eq_true (by omega)
    clear c2
    simp only [Option.some.injEq, Prod.mk.injEq] at H
    obtain ⟨rfl, rfl, rfl, rfl⟩ := H
    go_enter Tryz.func14, Tryz.ntmps14
    go_wp2
    refine bodyPost_ret (results_list (rs := [.tmp 2, .tmp 3, .tmp 4, .tmp 5]) rfl (by simp) (.tmp (.tmp (.tmp (.tmp .nil))))) rfl ?_
    exact ⟨_, by first | rfl | (simp [errW_none, errW_some] <;> rfl) | (simp [*, errW_none, errW_some] <;> rfl), by first | exact Kd.S_nil _ _ _ _ _ | exact Kd.N_nil _ _ _ _ _ | exact Kd.V_nil _ _ _ _ _ | exact Kd.Q_nil _ _ _ _ _ | exact Kd.R_nil _ _ _ _ _, by repeat (first | (with_reducible first | exact HB.out | apply below_alloc | apply pw_below_drewN | apply below_drew1) | exact HB.out)⟩
  · rw [if_neg c2] at H
    have c2b0 : decide (65536 < (a0.size : Int)) = false := decide_eq_false c2
    have c2b1 : decide (65536 < a0.size) = false := decide_eq_false (by omega)
    clear c2
    replace H := Option.bind_eq_some_iff.mp H
    obtain ⟨t277, A30, H⟩ := H
    replace H : (plaitref19_Parse.l0 k t277 false 0 0 ([] : List (List Int)) ([] : List Int) false 0) = some (r1, r2, r3, r4) := H
    have A3 := Aside0.mk A30
    clear A30
    have H' := Aside0.mk H
    clear H
    go_enter Tryz.func14, Tryz.ntmps14
    go_wp2_with (first | ((with_reducible refine gate_callee (f := 46) rfl ?_); refine goesL_ (some 29) rfl rfl Tryz.func46 (by kernel_rfl) rfl #[.string a0] rfl (by (try simp only [List.map_toArray, List.map_cons, List.map_nil]); first | done | rfl | (simp only [List.length_drop, List.length_take]; rfl)) ?_; (with_reducible refine (plaitref19_lines.calls k a0 t277 _ A3.out).mono ?_); rintro e w4 ⟨v278, rfl, ho0, hb⟩; refine ⟨_, rfl, ?_⟩; have n0_ := Aside0.mk (Kd.R_lower ho0 (below_size (by repeat (first | (with_reducible first | exact HB.out | apply below_alloc | apply pw_below_drewN | apply below_drew1) | exact HB.out)))); have n1_ := Aside0.mk (below_step (by repeat (first | (with_reducible first | exact HB.out | apply below_alloc | apply pw_below_drewN | apply below_drew1) | exact HB.out)) hb); clear HB; have HO279 := n0_; have HB := n1_; clear n0_ n1_; (try clear hb); (try clear hb2); (try clear hk); (try clear hi); (try clear ho0)))
    go_loopg [7, 8, 9, 10, 11, 12, 13] k (fun kq v7 v8 v9 v10 v11 v12 v13 w' => ∃ (x7_1 : Bool) (x8_1 : Int) (x9_1 : Int) (x10_1 : List (List Int)) (x11_1 : List Int) (x12_1 : Bool) (x13_1 : Int), v7 = .bool x7_1 ∧ v8 = .int .i64 x8_1 ∧ v9 = .int .i64 x9_1 ∧ v12 = .bool x12_1 ∧ v13 = .int .i64 x13_1 ∧ Aside0 (plaitref19_Parse.l0 kq t277 x7_1 x8_1 x9_1 x10_1 x11_1 x12_1 x13_1 = some (r1, r2, r3, r4)) ∧ Aside0 (kq ≤ k) ∧ Aside0 (Kd.R Kd.string 9 w' w.heap.size (fun _ => True) v278 t277) ∧ Aside0 (Kd.S (Kd.slice 3 (Kd.int .i64)) 61 w' w.heap.size (fun k_ => some k_ ≠ (v11 : Value).ownBlock) v10 x10_1) ∧ Aside0 (Kd.R (Kd.int .i64) 3 w' w.heap.size (fun _ => True) v11 x11_1) ∧ Aside0 (Below w.heap.size w w'))
    case atStart => exact ⟨(false), (0), (0), (([] : List (List Int))), (([] : List Int)), (false), (0), (by first | rfl | (simp; done) | (simp [*]; done)), (by first | rfl | (simp; done) | (simp [*]; done)), (by first | rfl | (simp; done) | (simp [*]; done)), (by first | rfl | (simp; done) | (simp [*]; done)), (by first | rfl | (simp; done) | (simp [*]; done)), H', ⟨Nat.le_refl _⟩, ⟨by (with_reducible repeat (first | apply Kd.R_alloc | apply Kd.R_drewN | apply Kd.R_drew)); exact HO279.out⟩, ⟨by first | exact Kd.S_nil _ _ _ _ _ | exact Kd.N_nil _ _ _ _ _ | exact Kd.V_nil _ _ _ _ _ | exact Kd.Q_nil _ _ _ _ _ | exact Kd.R_nil _ _ _ _ _⟩, ⟨by first | exact Kd.R_nil _ _ _ _ _ | exact Kd.N_nil _ _ _ _ _ | exact Kd.V_nil _ _ _ _ _ | exact Kd.Q_nil _ _ _ _ _ | exact Kd.S_nil _ _ _ _ _⟩, ⟨by repeat (first | (with_reducible first | exact HB.out | apply below_alloc | apply pw_below_drewN | apply below_drew1) | exact HB.out)⟩⟩
    case round =>
      clear H'
      try clear c1
      try clear c2
      try clear c2b0
      try clear c2b1
      try clear p2
      try clear c4
      obtain ⟨x7_1, x8_1, x9_1, x10_1, x11_1, x12_1, x13_1, rfl, rfl, rfl, rfl, rfl, HA, HK1, HO_6, HO_10, HO_11, HB⟩ := hrel
      cases gk with
      | zero => exact absurd HA.out (by simp [plaitref19_Parse.l0])
      | succ k1 =>
        have H := HA.out
        clear HA
        simp only [plaitref19_Parse.l0] at H
        by_cases c5 : x13_1 < (t277.length : Int)
        · rw [if_pos c5] at H
          have c5b0 : decide (x13_1 < (t277.length : Int)) = true := decide_eq_true c5
          clear c5
          by_cases c6 : 0 ≤ x13_1
          · rw [if_pos c6] at H
            have c6b0 : decide (0 ≤ x13_1) = true := decide_eq_true c6
            clear c6
            replace H := Option.bind_eq_some_iff.mp H
            obtain ⟨t281, A70, H⟩ := H
            replace H : (if (t281.length : Int) = 0 then (plaitref19_Parse.j1 k1 t277 x7_1 x8_1 x9_1 x10_1 x11_1 x12_1 x13_1 t281 true) else (if 0 < (t281.length : Int) then (plaitref19_Parse.j1 k1 t277 x7_1 x8_1 x9_1 x10_1 x11_1 x12_1 x13_1 t281 ((rdOf ByteArray.empty t281 0).toList == ([99] : List UInt8))) else (none))) = some (r1, r2, r3, r4) := H
            have A7 := Aside0.mk A70
            clear A70
            have HC8 := Aside0.mk H
            clear H
            obtain ⟨Ao9, co9, eo9⟩ := Kd.R_slice HO_6.out
            subst eo9
            have p280 : 0 ≤ (x13_1 : Int) := of_decide_eq_true (by first | (with_reducible assumption) | assumption)
            have q280 : x13_1 < (t277.length : Int) := of_decide_eq_true (by first | (with_reducible assumption) | assumption)
            obtain ⟨ad280, e280, hx280_0⟩ := Kd.at_string (Kd.R_reads' HO_6.out).2.2 x13_1 p280 q280
            cases e280
            replace p280 := eq_true p280
            replace q280 := eq_true q280
            go_upto_region 13 with (first | ((with_reducible refine gate_callee (f := 47) rfl ?_); refine goesL_ (some 40) rfl rfl Tryz.func47 (by kernel_rfl) rfl #[.string (rdOf ByteArray.empty t277 x13_1)] rfl (by (try simp only [List.map_toArray, List.map_cons, List.map_nil]); first | done | rfl | (simp only [List.length_drop, List.length_take]; rfl)) ?_; (with_reducible refine (plaitref19_words.calls k1 (rdOf ByteArray.empty t277 x13_1) t281 _ A7.out).mono ?_); rintro e w10 ⟨v282, rfl, ho0, hb⟩; refine ⟨_, rfl, ?_⟩; have n0_ := Aside0.mk (Kd.R_elder' (by (with_reducible repeat (first | apply Kd.R_alloc | apply Kd.R_drewN | apply Kd.R_drew)); exact HO_6.out) (Kd.R_base ho0) hb); have n1_ := Aside0.mk (Kd.S_below (by (with_reducible repeat (first | apply Kd.S_alloc | apply Kd.S_drewN | apply Kd.S_drew)); exact HO_10.out) hb); have n2_ := Aside0.mk (Kd.R_below (by (with_reducible repeat (first | apply Kd.R_alloc | apply Kd.R_drewN | apply Kd.R_drew)); exact HO_11.out) hb); have n3_ := Aside0.mk (Kd.R_lower (Kd.R_new' ho0 (Kd.R_lt (by (with_reducible repeat (first | apply Kd.R_alloc | apply Kd.R_drewN | apply Kd.R_drew)); exact HO_6.out))) (below_size (by repeat (first | (with_reducible first | exact HB.out | apply below_alloc | apply pw_below_drewN | apply below_drew1) | exact HB.out)))); have n4_ := Aside0.mk (below_step (by repeat (first | (with_reducible first | exact HB.out | apply below_alloc | apply pw_below_drewN | apply below_drew1) | exact HB.out)) hb); clear HO_6; clear HO_10; clear HO_11; clear HB; have HO_6 := n0_; have HO_10 := n1_; have HO_11 := n2_; have HO283 := n3_; have HB := n4_; clear n0_ n1_ n2_ n3_ n4_; (try clear hb); (try clear hb2); (try clear hk); (try clear hi); (try clear ho0)))
            (try simp only [Act.put, List.setIfInBounds_toArray, List.set_cons_zero, List.set_cons_succ])
            go_cut [49] (fun v49 wc => ∃ (kq : Nat) (x49_7 : Bool), v49 = .bool x49_7 ∧ Aside0 (plaitref19_Parse.j1 kq t277 x7_1 x8_1 x9_1 x10_1 x11_1 x12_1 x13_1 t281 x49_7 = some (r1, r2, r3, r4)) ∧ Aside0 (kq ≤ k1) ∧ Aside0 (Kd.R Kd.string 9 wc w.heap.size (fun k_ => some k_ ≠ (v282 : Value).ownBlock) (.slice (some ad280) t277.length co9) t277) ∧ Aside0 (Kd.S (Kd.slice 3 (Kd.int .i64)) 61 wc w.heap.size (fun k_ => some k_ ≠ (u11 : Value).ownBlock) u10 x10_1) ∧ Aside0 (Kd.R (Kd.int .i64) 3 wc w.heap.size (fun _ => True) u11 x11_1) ∧ Aside0 (Kd.R Kd.string 9 wc w.heap.size (fun k_ => some k_ ≠ ((.slice (some ad280) t277.length co9) : Value).ownBlock) v282 t281) ∧ Aside0 (Below w.heap.size w wc))
            case first =>
              have H := HC8.out
              clear HC8
              by_cases c11 : (t281.length : Int) = 0
              · rw [if_pos c11] at H
                have c11b0 : ((t281.length : Int) == 0) = true := beq_iff_eq.mpr c11
                have c11b1 : ((t281.length : Int) != 0) = false := bne_eq_false_iff_eq.mpr c11
                clear c11
                (first | rw [c11b0] | (simp only [i64_w, i32_w]; rw [c11b0]) | skip)
                have H' := Aside0.mk H
                clear H
                obtain ⟨Ao12, co12, eo12⟩ := Kd.R_slice HO283.out
                subst eo12
                go_wp2
                go_meet
                case rel => exact ⟨_, (true), (by first | rfl | (simp; done) | (simp [*]; done)), H', ⟨by have := HK1.out; first | omega | exact Nat.le_refl _⟩, ⟨by (with_reducible repeat (first | apply Kd.R_alloc | apply Kd.R_drewN | apply Kd.R_drew)); exact Kd.R_mono HO_6.out (fun _ hk => hk.2)⟩, ⟨by (with_reducible repeat (first | apply Kd.S_alloc | apply Kd.S_drewN | apply Kd.S_drew)); exact HO_10.out⟩, ⟨by (with_reducible repeat (first | apply Kd.R_alloc | apply Kd.R_drewN | apply Kd.R_drew)); exact HO_11.out⟩, ⟨by (with_reducible repeat (first | apply Kd.R_alloc | apply Kd.R_drewN | apply Kd.R_drew)); exact Kd.R_mono HO283.out (fun _ hk => hk.2)⟩, ⟨by repeat (first | (with_reducible first | exact HB.out | apply below_alloc | apply pw_below_drewN | apply below_drew1) | exact HB.out)⟩⟩
              · rw [if_neg c11] at H
                have c11b0 : ((t281.length : Int) == 0) = false := beq_eq_false_iff_ne.mpr c11
                have c11b1 : ((t281.length : Int) != 0) = true := bne_iff_ne.mpr c11
                have c11b2 : ¬ (t281 = []) := fun h_ => c11 (by rw [h_]; rfl)
                (first | rw [c11b0] | (simp only [i64_w, i32_w]; rw [c11b0]) | skip)
                by_cases c13 : 0 < (t281.length : Int)
                · rw [if_pos c13] at H
                  have c13b0 : decide (0 < (t281.length : Int)) = true := decide_eq_true c13
                  have c13b1 : decide (0 < t281.length) = true := decide_eq_true (by omega)
                  clear c13
                  have H' := Aside0.mk H
                  clear H
                  obtain ⟨Ao14, co14, eo14⟩ := Kd.R_slice HO283.out
                  subst eo14
                  have p284 : 0 ≤ (0 : Int) := (by omega)
                  have q284 : 0 < (t281.length : Int) := of_decide_eq_true (by first | (with_reducible assumption) | assumption)
                  obtain ⟨ad284, e284, hx284_0⟩ := Kd.at_string (Kd.R_reads' HO283.out).2.2 0 p284 q284
                  cases e284
                  have qi284 : (0 < t281.length) = True := eq_true (by omega)
                  (try rw [show ((0 : Int)).toNat = 0 from rfl] at hx284_0)
                  (try rw [Addr.add_zero'] at hx284_0)
                  replace p284 := eq_true p284
                  replace q284 := eq_true q284
                  go_wp2
                  go_meet
                  case rel => exact ⟨_, (((rdOf ByteArray.empty t281 0).toList == ([99] : List UInt8))), (by first | rfl | (simp; done) | (simp [*]; done)), H', ⟨by have := HK1.out; first | omega | exact Nat.le_refl _⟩, ⟨by (with_reducible repeat (first | apply Kd.R_alloc | apply Kd.R_drewN | apply Kd.R_drew)); exact Kd.R_mono HO_6.out (fun _ hk => hk.2)⟩, ⟨by (with_reducible repeat (first | apply Kd.S_alloc | apply Kd.S_drewN | apply Kd.S_drew)); exact HO_10.out⟩, ⟨by (with_reducible repeat (first | apply Kd.R_alloc | apply Kd.R_drewN | apply Kd.R_drew)); exact HO_11.out⟩, ⟨by (with_reducible repeat (first | apply Kd.R_alloc | apply Kd.R_drewN | apply Kd.R_drew)); exact Kd.R_mono HO283.out (fun _ hk => hk.2)⟩, ⟨by repeat (first | (with_reducible first | exact HB.out | apply below_alloc | apply pw_below_drewN | apply below_drew1) | exact HB.out)⟩⟩
                · rw [if_neg c13] at H
                  exact absurd H (by simp)
            case rest =>
              clear HC8
              try clear c1
              try clear c2
              try clear c2b0
              try clear c2b1
              try clear p2
              try clear q2
              try clear hx2
              try clear qi2
              try clear c4
              try clear c5
              try clear c5b0
              try clear c6
              try clear c6b0
              try clear c11
              try clear c11b0
              try clear c11b1
              try clear c11b2
              try clear c13
              try clear c13b0
              try clear c13b1
              try clear c14
              try clear hx280_0
              try clear hx284_0
              try clear p2
              try clear p280
              try clear p284
              try clear q280
              try clear q284
              obtain ⟨kq, x49_7, rfl, HA, HJ7, HO_6, HO_10, HO_11, HO_14, HB⟩ := hcut
              cases kq with
              | zero => exact absurd HA.out (by simp [plaitref19_Parse.j1])
              | succ kj7 =>
                have H := HA.out
                clear HA
                simp only [plaitref19_Parse.j1] at H
                by_cases c15 : x49_7 = true
                · subst c15
                  have H1 : (plaitref19_Parse.l0 kj7 t277 x7_1 x8_1 x9_1 x10_1 x11_1 x12_1 (wrap64 (x13_1 + 1))) = some (r1, r2, r3, r4) := by rw [if_pos rfl] at H; exact H
                  clear H
                  have H := H1
                  clear H1
                  have H' := Aside0.mk H
                  clear H
                  go_wp2
                  go_roundg kj7
                  case measure => have := HK1.out; have := HJ7.out; omega
                  case rel => exact ⟨(x7_1), (x8_1), (x9_1), (x10_1), (x11_1), (x12_1), (wrap64 (x13_1 + 1)), (by first | rfl | (simp; done) | (simp [*]; done)), (by first | rfl | (simp; done) | (simp [*]; done)), (by first | rfl | (simp; done) | (simp [*]; done)), (by first | rfl | (simp; done) | (simp [*]; done)), (by first | rfl | (simp; done) | (simp [*]; done)), H', ⟨by have := HK1.out; have := HJ7.out; omega⟩, ⟨by (with_reducible repeat (first | apply Kd.R_alloc | apply Kd.R_drewN | apply Kd.R_drew)); exact Kd.R_mono HO_6.out (fun _ hk => trivial)⟩, ⟨by (with_reducible repeat (first | apply Kd.S_alloc | apply Kd.S_drewN | apply Kd.S_drew)); exact HO_10.out⟩, ⟨by (with_reducible repeat (first | apply Kd.R_alloc | apply Kd.R_drewN | apply Kd.R_drew)); exact HO_11.out⟩, ⟨by repeat (first | (with_reducible first | exact HB.out | apply below_alloc | apply pw_below_drewN | apply below_drew1) | exact HB.out)⟩⟩
                · replace c15 := Bool.eq_false_iff.mpr c15
                  subst c15
                  have H1 : (if x7_1 = true then (plaitref19_Parse.l1 kj7 t277 x7_1 x8_1 x9_1 x10_1 x11_1 x12_1 x13_1 t281 0) else (if (t281.length : Int) = 4 then (if 0 < (t281.length : Int) then (if (rdOf ByteArray.empty t281 0).toList = ([112] : List UInt8) then (if 1 < (t281.length : Int) then (plaitref19_Parse.j2 kj7 t277 x10_1 x11_1 x12_1 x13_1 t281 ((rdOf ByteArray.empty t281 1).toList == ([99, 110, 102] : List UInt8))) else (none)) else (plaitref19_Parse.j2 kj7 t277 x10_1 x11_1 x12_1 x13_1 t281 false)) else (none)) else (plaitref19_Parse.j2 kj7 t277 x10_1 x11_1 x12_1 x13_1 t281 false))) = some (r1, r2, r3, r4) := by rw [if_neg (show ¬ (false = true) by decide)] at H; exact H
                  clear H
                  have H := H1
                  clear H1
                  by_cases c16 : x7_1 = true
                  · subst c16
                    have H1 : (plaitref19_Parse.l1 kj7 t277 true x8_1 x9_1 x10_1 x11_1 x12_1 x13_1 t281 0) = some (r1, r2, r3, r4) := by rw [if_pos rfl] at H; exact H
                    clear H
                    have H := H1
                    clear H1
                    have H' := Aside0.mk H
                    clear H
                    go_wp2
                    go_loopg [10, 11, 12, 20] kj7 (fun kq v10 v11 v12 v20 w' => ∃ (x10_3 : List (List Int)) (x11_3 : List Int) (x12_3 : Bool) (x20_3 : Int), v12 = .bool x12_3 ∧ v20 = .int .i64 x20_3 ∧ Aside0 (plaitref19_Parse.l1 kq t277 true x8_1 x9_1 x10_3 x11_3 x12_3 x13_1 t281 x20_3 = some (r1, r2, r3, r4)) ∧ Aside0 (kq ≤ kj7) ∧ Aside0 (Kd.R Kd.string 9 w' w.heap.size (fun k_ => some k_ ≠ (v282 : Value).ownBlock) (.slice (some ad280) t277.length co9) t277) ∧ Aside0 (Kd.S (Kd.slice 3 (Kd.int .i64)) 61 w' w.heap.size (fun k_ => some k_ ≠ (v11 : Value).ownBlock) v10 x10_3) ∧ Aside0 (Kd.R (Kd.int .i64) 3 w' w.heap.size (fun _ => True) v11 x11_3) ∧ Aside0 (Kd.R Kd.string 9 w' w.heap.size (fun k_ => some k_ ≠ ((.slice (some ad280) t277.length co9) : Value).ownBlock) v282 t281) ∧ Aside0 (Below w.heap.size w w'))
                    case atStart => exact ⟨(x10_1), (x11_1), (x12_1), (0), (by first | rfl | (simp; done) | (simp [*]; done)), (by first | rfl | (simp; done) | (simp [*]; done)), H', ⟨Nat.le_refl _⟩, ⟨by (with_reducible repeat (first | apply Kd.R_alloc | apply Kd.R_drewN | apply Kd.R_drew)); exact HO_6.out⟩, ⟨by (with_reducible repeat (first | apply Kd.S_alloc | apply Kd.S_drewN | apply Kd.S_drew)); exact HO_10.out⟩, ⟨by (with_reducible repeat (first | apply Kd.R_alloc | apply Kd.R_drewN | apply Kd.R_drew)); exact HO_11.out⟩, ⟨by (with_reducible repeat (first | apply Kd.R_alloc | apply Kd.R_drewN | apply Kd.R_drew)); exact HO_14.out⟩, ⟨by repeat (first | (with_reducible first | exact HB.out | apply below_alloc | apply pw_below_drewN | apply below_drew1) | exact HB.out)⟩⟩
                    case round =>
                      clear H'
                      try clear c1
                      try clear c2
                      try clear c2b0
                      try clear c2b1
                      try clear p2
                      try clear q2
                      try clear hx2
                      try clear qi2
                      try clear c4
                      try clear c5
                      try clear c5b0
                      try clear c6
                      try clear c6b0
                      try clear p6
                      try clear c11
                      try clear c11b0
                      try clear c11b1
                      try clear c11b2
                      try clear c13
                      try clear c13b0
                      try clear c13b1
                      try clear c14
                      try clear c15
                      try clear c16
                      try clear hx280_0
                      try clear hx284_0
                      try clear p2
                      try clear p280
                      try clear p284
                      try clear q2
                      try clear q280
                      try clear q284
                      obtain ⟨x10_3, x11_3, x12_3, x20_3, rfl, rfl, HA, HK3, HO_6, HO_10, HO_11, HO_14, HB⟩ := hrel
                      cases gk with
                      | zero => exact absurd HA.out (by simp [plaitref19_Parse.l1])
                      | succ k3 =>
                        have H := HA.out
                        clear HA
                        simp only [plaitref19_Parse.l1] at H
                        by_cases c17 : x20_3 < (t281.length : Int)
                        · rw [if_pos c17] at H
                          have c17b0 : decide (x20_3 < (t281.length : Int)) = true := decide_eq_true c17
                          clear c17
                          have HC18 := Aside0.mk H
                          clear H
                          obtain ⟨Ao19, co19, eo19⟩ := Kd.R_slice HO_14.out
                          subst eo19
                          go_upto_region 26 with (fail)
                          go_cut [21] (fun v21 wc => ∃ (kq : Nat) (x21_17 : Bool), v21 = .bool x21_17 ∧ Aside0 (plaitref19_Parse.j4 kq t277 true x8_1 x9_1 x10_3 x11_3 x13_1 t281 x20_3 x21_17 = some (r1, r2, r3, r4)) ∧ Aside0 (kq ≤ k3) ∧ Aside0 (Kd.R Kd.string 9 wc w.heap.size (fun k_ => some k_ ≠ ((.slice Ao19 t281.length co19) : Value).ownBlock) (.slice (some ad280) t277.length co9) t277) ∧ Aside0 (Kd.S (Kd.slice 3 (Kd.int .i64)) 61 wc w.heap.size (fun k_ => some k_ ≠ (u11 : Value).ownBlock) u10 x10_3) ∧ Aside0 (Kd.R (Kd.int .i64) 3 wc w.heap.size (fun _ => True) u11 x11_3) ∧ Aside0 (Kd.R Kd.string 9 wc w.heap.size (fun k_ => some k_ ≠ ((.slice (some ad280) t277.length co9) : Value).ownBlock) (.slice Ao19 t281.length co19) t281) ∧ Aside0 (Below w.heap.size w wc))
                          case first =>
                            have H := HC18.out
                            clear HC18
                            by_cases c20 : 0 ≤ x20_3
                            · rw [if_pos c20] at H
                              have c20b0 : decide (0 ≤ x20_3) = true := decide_eq_true c20
                              clear c20
                              (first | rw [c20b0] | (simp only [i64_w, i32_w]; rw [c20b0]) | skip)
                              by_cases c21 : ((rdOf ByteArray.empty t281 x20_3).size : Int) > 1
                              · rw [if_pos c21] at H
                                have c21b0 : decide (1 < ((rdOf ByteArray.empty t281 x20_3).size : Int)) = true := decide_eq_true c21
                                have c21b1 : decide (1 < (rdOf ByteArray.empty t281 x20_3).size) = true := decide_eq_true (by omega)
                                clear c21
                                by_cases c22 : 0 < ((rdOf ByteArray.empty t281 x20_3).size : Int)
                                · rw [if_pos c22] at H
                                  have c22b0 : decide (0 < ((rdOf ByteArray.empty t281 x20_3).size : Int)) = true := decide_eq_true c22
                                  have c22b1 : decide (0 < (rdOf ByteArray.empty t281 x20_3).size) = true := decide_eq_true (by omega)
                                  clear c22
                                  have H' := Aside0.mk H
                                  clear H
                                  have p293 : 0 ≤ (x20_3 : Int) := of_decide_eq_true (by first | (with_reducible assumption) | assumption)
                                  have q293 : x20_3 < (t281.length : Int) := of_decide_eq_true (by first | (with_reducible assumption) | assumption)
                                  obtain ⟨ad293, e293, hx293_0⟩ := Kd.at_string (Kd.R_reads' HO_14.out).2.2 x20_3 p293 q293
                                  cases e293
                                  replace p293 := eq_true p293
                                  replace q293 := eq_true q293
                                  have p294 : 0 ≤ (x20_3 : Int) := of_decide_eq_true (by first | (with_reducible assumption) | assumption)
                                  have q294 : x20_3 < (t281.length : Int) := of_decide_eq_true (by first | (with_reducible assumption) | assumption)
                                  obtain ⟨ad294, e294, hx294_0⟩ := Kd.at_string (Kd.R_reads' HO_14.out).2.2 x20_3 p294 q294
                                  obtain rfl : ad293 = ad294 := (by injection e294)
                                  replace p294 := eq_true p294
                                  replace q294 := eq_true q294
                                  have p23 : 0 ≤ (0 : Int) := (by omega)
                                  have q23 : 0 < (rdOf ByteArray.empty t281 x20_3).size := (by have : (0 : Int) < ((rdOf ByteArray.empty t281 x20_3).size : Int) := of_decide_eq_true (by first | (with_reducible assumption) | assumption); omega)
                                  have hx23 : ∀ h : 0 < (rdOf ByteArray.empty t281 x20_3).size, (((rdOf ByteArray.empty t281 x20_3)[0]'h).toNat : Int) = bt (rdOf ByteArray.empty t281 x20_3) 0 := bt_at (rdOf ByteArray.empty t281 x20_3) 0
                                  clear p23
                                  have qi23 : (0 < ((rdOf ByteArray.empty t281 x20_3).size : Int)) = True := eq_true (of_decide_eq_true (by first | (with_reducible assumption) | assumption))
                                  replace q23 := eq_true q23
                                  go_wp2
                                  go_meet
                                  case rel => exact ⟨_, (((bt (rdOf ByteArray.empty t281 x20_3) 0) == 45)), (by first | rfl | (simp; done) | (simp [*]; done)), H', ⟨by have := HK1.out; have := HJ7.out; have := HK3.out; first | omega | exact Nat.le_refl _⟩, ⟨by (with_reducible repeat (first | apply Kd.R_alloc | apply Kd.R_drewN | apply Kd.R_drew)); exact HO_6.out⟩, ⟨by (with_reducible repeat (first | apply Kd.S_alloc | apply Kd.S_drewN | apply Kd.S_drew)); exact HO_10.out⟩, ⟨by (with_reducible repeat (first | apply Kd.R_alloc | apply Kd.R_drewN | apply Kd.R_drew)); exact HO_11.out⟩, ⟨by (with_reducible repeat (first | apply Kd.R_alloc | apply Kd.R_drewN | apply Kd.R_drew)); exact HO_14.out⟩, ⟨by repeat (first | (with_reducible first | exact HB.out | apply below_alloc | apply pw_below_drewN | apply below_drew1) | exact HB.out)⟩⟩
                                · rw [if_neg c22] at H
                                  exact absurd H (by simp)
                              · rw [if_neg c21] at H
                                have c21b0 : decide (1 < ((rdOf ByteArray.empty t281 x20_3).size : Int)) = false := decide_eq_false c21
                                have c21b1 : decide (1 < (rdOf ByteArray.empty t281 x20_3).size) = false := decide_eq_false (by omega)
                                clear c21
                                have H' := Aside0.mk H
                                clear H
                                have p293 : 0 ≤ (x20_3 : Int) := of_decide_eq_true (by first | (with_reducible assumption) | assumption)
                                have q293 : x20_3 < (t281.length : Int) := of_decide_eq_true (by first | (with_reducible assumption) | assumption)
                                obtain ⟨ad293, e293, hx293_0⟩ := Kd.at_string (Kd.R_reads' HO_14.out).2.2 x20_3 p293 q293
                                cases e293
                                replace p293 := eq_true p293
                                replace q293 := eq_true q293
                                go_wp2
                                go_meet
                                case rel => exact ⟨_, (false), (by first | rfl | (simp; done) | (simp [*]; done)), H', ⟨by have := HK1.out; have := HJ7.out; have := HK3.out; first | omega | exact Nat.le_refl _⟩, ⟨by (with_reducible repeat (first | apply Kd.R_alloc | apply Kd.R_drewN | apply Kd.R_drew)); exact HO_6.out⟩, ⟨by (with_reducible repeat (first | apply Kd.S_alloc | apply Kd.S_drewN | apply Kd.S_drew)); exact HO_10.out⟩, ⟨by (with_reducible repeat (first | apply Kd.R_alloc | apply Kd.R_drewN | apply Kd.R_drew)); exact HO_11.out⟩, ⟨by (with_reducible repeat (first | apply Kd.R_alloc | apply Kd.R_drewN | apply Kd.R_drew)); exact HO_14.out⟩, ⟨by repeat (first | (with_reducible first | exact HB.out | apply below_alloc | apply pw_below_drewN | apply below_drew1) | exact HB.out)⟩⟩
                            · rw [if_neg c20] at H
                              exact absurd H (by simp)
                          case rest =>
                            clear HC18
                            try clear c1
                            try clear c2
                            try clear c2b0
                            try clear c2b1
                            try clear p2
                            try clear q2
                            try clear hx2
                            try clear qi2
                            try clear c4
                            try clear c5
                            try clear c5b0
                            try clear c6
                            try clear c6b0
                            try clear p6
                            try clear c11
                            try clear c11b0
                            try clear c11b1
                            try clear c11b2
                            try clear c13
                            try clear c13b0
                            try clear c13b1
                            try clear c14
                            try clear c15
                            try clear c16
                            try clear c17
                            try clear c17b0
                            try clear c20
                            try clear c20b0
                            try clear c21
                            try clear c21b0
                            try clear c21b1
                            try clear c22
                            try clear c22b0
                            try clear c22b1
                            try clear p23
                            try clear q23
                            try clear hx23
                            try clear qi23
                            try clear hx280_0
                            try clear hx284_0
                            try clear hx293_0
                            try clear hx294_0
                            try clear p2
                            try clear p23
                            try clear p280
                            try clear p284
                            try clear p293
                            try clear p294
                            try clear p6
                            try clear q2
                            try clear q23
                            try clear q280
                            try clear q284
                            try clear q293
                            try clear q294
                            obtain ⟨kq, x21_17, rfl, HA, HJ17, HO_6, HO_10, HO_11, HO_14, HB⟩ := hcut
                            cases kq with
                            | zero => exact absurd HA.out (by simp [plaitref19_Parse.j4])
                            | succ kj17 =>
                              have H := HA.out
                              clear HA
                              simp only [plaitref19_Parse.j4] at H
                              by_cases c24 : 0 ≤ x20_3
                              · rw [if_pos c24] at H
                                have c24b0 : decide (0 ≤ x20_3) = true := decide_eq_true c24
                                clear c24
                                by_cases c25 : x20_3 < (t281.length : Int)
                                · rw [if_pos c25] at H
                                  have c25b0 : decide (x20_3 < (t281.length : Int)) = true := decide_eq_true c25
                                  clear c25
                                  have HC26 := Aside0.mk H
                                  clear H
                                  have p295 : 0 ≤ (x20_3 : Int) := of_decide_eq_true (by first | (with_reducible assumption) | assumption)
                                  have q295 : x20_3 < (t281.length : Int) := of_decide_eq_true (by first | (with_reducible assumption) | assumption)
                                  obtain ⟨ad295, e295, hx295_0⟩ := Kd.at_string (Kd.R_reads' HO_14.out).2.2 x20_3 p295 q295
                                  cases e295
                                  replace p295 := eq_true p295
                                  replace q295 := eq_true q295
                                  go_upto_if 119 with (fail)
                                  go_cut [22] (fun v22 wc => ∃ (kq : Nat) (x22_25 : ByteArray), v22 = .string x22_25 ∧ Aside0 (plaitref19_Parse.j5 kq t277 true x8_1 x9_1 x10_3 x11_3 x13_1 t281 x20_3 x21_17 x22_25 = some (r1, r2, r3, r4)) ∧ Aside0 (kq ≤ kj17) ∧ Aside0 (Kd.R Kd.string 9 wc w.heap.size (fun k_ => some k_ ≠ ((.slice (some ad295) t281.length co19) : Value).ownBlock) (.slice (some ad280) t277.length co9) t277) ∧ Aside0 (Kd.S (Kd.slice 3 (Kd.int .i64)) 61 wc w.heap.size (fun k_ => some k_ ≠ (u11 : Value).ownBlock) u10 x10_3) ∧ Aside0 (Kd.R (Kd.int .i64) 3 wc w.heap.size (fun _ => True) u11 x11_3) ∧ Aside0 (Kd.R Kd.string 9 wc w.heap.size (fun k_ => some k_ ≠ ((.slice (some ad280) t277.length co9) : Value).ownBlock) (.slice (some ad295) t281.length co19) t281) ∧ Aside0 (Below w.heap.size w wc))
                                  case first =>
                                    have H := HC26.out
                                    clear HC26
                                    by_cases c27 : x21_17 = true
                                    · subst c27
                                      have H1 : (if 1 ≤ ((rdOf ByteArray.empty t281 x20_3).size : Int) then (plaitref19_Parse.j5 kj17 t277 true x8_1 x9_1 x10_3 x11_3 x13_1 t281 x20_3 true ((rdOf ByteArray.empty t281 x20_3).extract 1 (rdOf ByteArray.empty t281 x20_3).size)) else (none)) = some (r1, r2, r3, r4) := by rw [if_pos rfl] at H; exact H
                                      clear H
                                      have H := H1
                                      clear H1
                                      by_cases c28 : 1 ≤ ((rdOf ByteArray.empty t281 x20_3).size : Int)
                                      · rw [if_pos c28] at H
                                        have c28b0 := eq_true c28
                                        have c28b1 : decide (1 ≤ ((rdOf ByteArray.empty t281 x20_3).size : Int)) = true := decide_eq_true c28
                                        clear c28
                                        have H' := Aside0.mk H
                                        clear H
                                        go_wp2
                                        go_meet
                                        case rel => exact ⟨_, ((rdOf ByteArray.empty t281 x20_3).extract 1 (rdOf ByteArray.empty t281 x20_3).size), (by first | rfl | (simp; done) | (simp [*]; done)), H', ⟨by have := HK1.out; have := HJ7.out; have := HK3.out; have := HJ17.out; first | omega | exact Nat.le_refl _⟩, ⟨by (with_reducible repeat (first | apply Kd.R_alloc | apply Kd.R_drewN | apply Kd.R_drew)); exact HO_6.out⟩, ⟨by (with_reducible repeat (first | apply Kd.S_alloc | apply Kd.S_drewN | apply Kd.S_drew)); exact HO_10.out⟩, ⟨by (with_reducible repeat (first | apply Kd.R_alloc | apply Kd.R_drewN | apply Kd.R_drew)); exact HO_11.out⟩, ⟨by (with_reducible repeat (first | apply Kd.R_alloc | apply Kd.R_drewN | apply Kd.R_drew)); exact HO_14.out⟩, ⟨by repeat (first | (with_reducible first | exact HB.out | apply below_alloc | apply pw_below_drewN | apply below_drew1) | exact HB.out)⟩⟩
                                      · rw [if_neg c28] at H
                                        exact absurd H (by simp)
                                    · replace c27 := Bool.eq_false_iff.mpr c27
                                      subst c27
                                      have H1 : (plaitref19_Parse.j5 kj17 t277 true x8_1 x9_1 x10_3 x11_3 x13_1 t281 x20_3 false (rdOf ByteArray.empty t281 x20_3)) = some (r1, r2, r3, r4) := by rw [if_neg (show ¬ (false = true) by decide)] at H; exact H
                                      clear H
                                      have H := H1
                                      clear H1
                                      have H' := Aside0.mk H
                                      clear H
                                      go_wp2
                                      go_meet
                                      case rel => exact ⟨_, (rdOf ByteArray.empty t281 x20_3), (by first | rfl | (simp; done) | (simp [*]; done)), H', ⟨by have := HK1.out; have := HJ7.out; have := HK3.out; have := HJ17.out; first | omega | exact Nat.le_refl _⟩, ⟨by (with_reducible repeat (first | apply Kd.R_alloc | apply Kd.R_drewN | apply Kd.R_drew)); exact HO_6.out⟩, ⟨by (with_reducible repeat (first | apply Kd.S_alloc | apply Kd.S_drewN | apply Kd.S_drew)); exact HO_10.out⟩, ⟨by (with_reducible repeat (first | apply Kd.R_alloc | apply Kd.R_drewN | apply Kd.R_drew)); exact HO_11.out⟩, ⟨by (with_reducible repeat (first | apply Kd.R_alloc | apply Kd.R_drewN | apply Kd.R_drew)); exact HO_14.out⟩, ⟨by repeat (first | (with_reducible first | exact HB.out | apply below_alloc | apply pw_below_drewN | apply below_drew1) | exact HB.out)⟩⟩
                                  case rest =>
                                    clear HC26
                                    try clear c1
                                    try clear c2
                                    try clear c2b0
                                    try clear c2b1
                                    try clear p2
                                    try clear q2
                                    try clear hx2
                                    try clear qi2
                                    try clear c4
                                    try clear c5
                                    try clear c5b0
                                    try clear c6
                                    try clear c6b0
                                    try clear p6
                                    try clear c11
                                    try clear c11b0
                                    try clear c11b1
                                    try clear c11b2
                                    try clear c13
                                    try clear c13b0
                                    try clear c13b1
                                    try clear c14
                                    try clear c15
                                    try clear c16
                                    try clear c17
                                    try clear c17b0
                                    try clear c20
                                    try clear c20b0
                                    try clear c21
                                    try clear c21b0
                                    try clear c21b1
                                    try clear c22
                                    try clear c22b0
                                    try clear c22b1
                                    try clear p23
                                    try clear q23
                                    try clear hx23
                                    try clear qi23
                                    try clear c24
                                    try clear c24b0
                                    try clear c25
                                    try clear c25b0
                                    try clear c27
                                    try clear c28
                                    try clear c28b0
                                    try clear c28b1
                                    try clear p28
                                    try clear q28
                                    try clear hx28
                                    try clear qi28
                                    try clear hx280_0
                                    try clear hx284_0
                                    try clear hx293_0
                                    try clear hx294_0
                                    try clear hx295_0
                                    try clear p2
                                    try clear p23
                                    try clear p280
                                    try clear p284
                                    try clear p293
                                    try clear p294
                                    try clear p295
                                    try clear p6
                                    try clear q2
                                    try clear q23
                                    try clear q280
                                    try clear q284
                                    try clear q293
                                    try clear q294
                                    try clear q295
                                    obtain ⟨kq, x22_25, rfl, HA, HJ25, HO_6, HO_10, HO_11, HO_14, HB⟩ := hcut
                                    cases kq with
                                    | zero => exact absurd HA.out (by simp [plaitref19_Parse.j5])
                                    | succ kj25 =>
                                      have H := HA.out
                                      clear HA
                                      simp only [plaitref19_Parse.j5] at H
                                      replace H := Option.bind_eq_some_iff.mp H
                                      obtain ⟨⟨t296, t297⟩, A290, H⟩ := H
                                      replace H : (if t297 = true then (if t296 > x8_1 then (plaitref19_Parse.j6 kj25 t277 true x8_1 x9_1 x10_3 x11_3 x13_1 t281 x20_3 x21_17 t296 true) else (if x21_17 = true then (if t296 = 0 then (plaitref19_Parse.j6 kj25 t277 true x8_1 x9_1 x10_3 x11_3 x13_1 t281 x20_3 x21_17 t296 true) else (plaitref19_Parse.j6 kj25 t277 true x8_1 x9_1 x10_3 x11_3 x13_1 t281 x20_3 x21_17 t296 ((x10_3.length : Int) == x9_1))) else (plaitref19_Parse.j6 kj25 t277 true x8_1 x9_1 x10_3 x11_3 x13_1 t281 x20_3 x21_17 t296 ((x10_3.length : Int) == x9_1)))) else (plaitref19_Parse.j6 kj25 t277 true x8_1 x9_1 x10_3 x11_3 x13_1 t281 x20_3 x21_17 t296 true)) = some (r1, r2, r3, r4) := H
                                      have A29 := Aside0.mk A290
                                      clear A290
                                      have HC30 := Aside0.mk H
                                      clear H
                                      go_upto_region 31 with (first | ((with_reducible refine gate_callee (f := 48) rfl ?_); refine goesL_ (some 124) rfl rfl Tryz.func48 (by kernel_rfl) rfl #[.string x22_25] rfl (by (try simp only [List.map_toArray, List.map_cons, List.map_nil]); first | done | rfl | (simp only [List.length_drop, List.length_take]; rfl)) ?_; (with_reducible refine (plaitref19_number.calls kj25 x22_25 t296 t297 _ A29.out).mono ?_); rintro e w' ⟨rfl, ⟨nd, rfl⟩⟩; refine ⟨_, rfl, ?_⟩))
                                      (try simp only [Act.put, List.setIfInBounds_toArray, List.set_cons_zero, List.set_cons_succ])
                                      go_cut [146] (fun v146 wc => ∃ (kq : Nat) (x146_29 : Bool), v146 = .bool x146_29 ∧ Aside0 (plaitref19_Parse.j6 kq t277 true x8_1 x9_1 x10_3 x11_3 x13_1 t281 x20_3 x21_17 t296 x146_29 = some (r1, r2, r3, r4)) ∧ Aside0 (kq ≤ kj25) ∧ Aside0 (Kd.R Kd.string 9 wc w.heap.size (fun k_ => some k_ ≠ ((.slice (some ad295) t281.length co19) : Value).ownBlock) (.slice (some ad280) t277.length co9) t277) ∧ Aside0 (Kd.S (Kd.slice 3 (Kd.int .i64)) 61 wc w.heap.size (fun k_ => some k_ ≠ (u11 : Value).ownBlock) u10 x10_3) ∧ Aside0 (Kd.R (Kd.int .i64) 3 wc w.heap.size (fun _ => True) u11 x11_3) ∧ Aside0 (Kd.R Kd.string 9 wc w.heap.size (fun k_ => some k_ ≠ ((.slice (some ad280) t277.length co9) : Value).ownBlock) (.slice (some ad295) t281.length co19) t281) ∧ Aside0 (Below w.heap.size w wc))
                                      case first =>
                                        have H := HC30.out
                                        clear HC30
                                        by_cases c31 : t297 = true
                                        · subst c31
                                          have H1 : (if t296 > x8_1 then (plaitref19_Parse.j6 kj25 t277 true x8_1 x9_1 x10_3 x11_3 x13_1 t281 x20_3 x21_17 t296 true) else (if x21_17 = true then (if t296 = 0 then (plaitref19_Parse.j6 kj25 t277 true x8_1 x9_1 x10_3 x11_3 x13_1 t281 x20_3 x21_17 t296 true) else (plaitref19_Parse.j6 kj25 t277 true x8_1 x9_1 x10_3 x11_3 x13_1 t281 x20_3 x21_17 t296 ((x10_3.length : Int) == x9_1))) else (plaitref19_Parse.j6 kj25 t277 true x8_1 x9_1 x10_3 x11_3 x13_1 t281 x20_3 x21_17 t296 ((x10_3.length : Int) == x9_1)))) = some (r1, r2, r3, r4) := by rw [if_pos rfl] at H; exact H
                                          clear H
                                          have H := H1
                                          clear H1
                                          by_cases c32 : t296 > x8_1
                                          · rw [if_pos c32] at H
                                            have c32b0 : decide (x8_1 < t296) = true := decide_eq_true c32
                                            clear c32
                                            (first | rw [c32b0] | (simp only [i64_w, i32_w]; rw [c32b0]) | skip)
                                            have H' := Aside0.mk H
                                            clear H
                                            go_wp2
                                            go_meet
                                            case rel => exact ⟨_, (true), (by first | rfl | (simp; done) | (simp [*]; done)), H', ⟨by have := HK1.out; have := HJ7.out; have := HK3.out; have := HJ17.out; have := HJ25.out; first | omega | exact Nat.le_refl _⟩, ⟨by (with_reducible repeat (first | apply Kd.R_alloc | apply Kd.R_drewN | apply Kd.R_drew)); exact HO_6.out⟩, ⟨by (with_reducible repeat (first | apply Kd.S_alloc | apply Kd.S_drewN | apply Kd.S_drew)); exact HO_10.out⟩, ⟨by (with_reducible repeat (first | apply Kd.R_alloc | apply Kd.R_drewN | apply Kd.R_drew)); exact HO_11.out⟩, ⟨by (with_reducible repeat (first | apply Kd.R_alloc | apply Kd.R_drewN | apply Kd.R_drew)); exact HO_14.out⟩, ⟨by repeat (first | (with_reducible first | exact HB.out | apply below_alloc | apply pw_below_drewN | apply below_drew1) | exact HB.out)⟩⟩
                                          · rw [if_neg c32] at H
                                            have c32b0 : decide (x8_1 < t296) = false := decide_eq_false c32
                                            clear c32
                                            (first | rw [c32b0] | (simp only [i64_w, i32_w]; rw [c32b0]) | skip)
                                            by_cases c33 : x21_17 = true
                                            · subst c33
                                              have H1 : (if t296 = 0 then (plaitref19_Parse.j6 kj25 t277 true x8_1 x9_1 x10_3 x11_3 x13_1 t281 x20_3 true t296 true) else (plaitref19_Parse.j6 kj25 t277 true x8_1 x9_1 x10_3 x11_3 x13_1 t281 x20_3 true t296 ((x10_3.length : Int) == x9_1))) = some (r1, r2, r3, r4) := by rw [if_pos rfl] at H; exact H
                                              clear H
                                              have H := H1
                                              clear H1
                                              by_cases c34 : t296 = 0
                                              · rw [if_pos c34] at H
                                                have c34b0 : (t296 == 0) = true := beq_iff_eq.mpr c34
                                                have c34b1 : (t296 != 0) = false := bne_eq_false_iff_eq.mpr c34
                                                clear c34
                                                have H' := Aside0.mk H
                                                clear H
                                                go_wp2
                                                go_meet
                                                case rel => exact ⟨_, (true), (by first | rfl | (simp; done) | (simp [*]; done)), H', ⟨by have := HK1.out; have := HJ7.out; have := HK3.out; have := HJ17.out; have := HJ25.out; first | omega | exact Nat.le_refl _⟩, ⟨by (with_reducible repeat (first | apply Kd.R_alloc | apply Kd.R_drewN | apply Kd.R_drew)); exact HO_6.out⟩, ⟨by (with_reducible repeat (first | apply Kd.S_alloc | apply Kd.S_drewN | apply Kd.S_drew)); exact HO_10.out⟩, ⟨by (with_reducible repeat (first | apply Kd.R_alloc | apply Kd.R_drewN | apply Kd.R_drew)); exact HO_11.out⟩, ⟨by (with_reducible repeat (first | apply Kd.R_alloc | apply Kd.R_drewN | apply Kd.R_drew)); exact HO_14.out⟩, ⟨by repeat (first | (with_reducible first | exact HB.out | apply below_alloc | apply pw_below_drewN | apply below_drew1) | exact HB.out)⟩⟩
                                              · rw [if_neg c34] at H
                                                have c34b0 : (t296 == 0) = false := beq_eq_false_iff_ne.mpr c34
                                                have c34b1 : (t296 != 0) = true := bne_iff_ne.mpr c34
                                                have H' := Aside0.mk H
                                                clear H
                                                obtain ⟨Ao35, co35, eo35⟩ := Kd.S_slice HO_10.out
                                                subst eo35
                                                go_wp2
                                                go_meet
                                                case rel => exact ⟨_, (((x10_3.length : Int) == x9_1)), (by first | rfl | (simp; done) | (simp [*]; done)), H', ⟨by have := HK1.out; have := HJ7.out; have := HK3.out; have := HJ17.out; have := HJ25.out; first | omega | exact Nat.le_refl _⟩, ⟨by (with_reducible repeat (first | apply Kd.R_alloc | apply Kd.R_drewN | apply Kd.R_drew)); exact HO_6.out⟩, ⟨by (with_reducible repeat (first | apply Kd.S_alloc | apply Kd.S_drewN | apply Kd.S_drew)); exact HO_10.out⟩, ⟨by (with_reducible repeat (first | apply Kd.R_alloc | apply Kd.R_drewN | apply Kd.R_drew)); exact HO_11.out⟩, ⟨by (with_reducible repeat (first | apply Kd.R_alloc | apply Kd.R_drewN | apply Kd.R_drew)); exact HO_14.out⟩, ⟨by repeat (first | (with_reducible first | exact HB.out | apply below_alloc | apply pw_below_drewN | apply below_drew1) | exact HB.out)⟩⟩
                                            · replace c33 := Bool.eq_false_iff.mpr c33
                                              subst c33
                                              have H1 : (plaitref19_Parse.j6 kj25 t277 true x8_1 x9_1 x10_3 x11_3 x13_1 t281 x20_3 false t296 ((x10_3.length : Int) == x9_1)) = some (r1, r2, r3, r4) := by rw [if_neg (show ¬ (false = true) by decide)] at H; exact H
                                              clear H
                                              have H := H1
                                              clear H1
                                              have H' := Aside0.mk H
                                              clear H
                                              obtain ⟨Ao36, co36, eo36⟩ := Kd.S_slice HO_10.out
                                              subst eo36
                                              go_wp2
                                              go_meet
                                              case rel => exact ⟨_, (((x10_3.length : Int) == x9_1)), (by first | rfl | (simp; done) | (simp [*]; done)), H', ⟨by have := HK1.out; have := HJ7.out; have := HK3.out; have := HJ17.out; have := HJ25.out; first | omega | exact Nat.le_refl _⟩, ⟨by (with_reducible repeat (first | apply Kd.R_alloc | apply Kd.R_drewN | apply Kd.R_drew)); exact HO_6.out⟩, ⟨by (with_reducible repeat (first | apply Kd.S_alloc | apply Kd.S_drewN | apply Kd.S_drew)); exact HO_10.out⟩, ⟨by (with_reducible repeat (first | apply Kd.R_alloc | apply Kd.R_drewN | apply Kd.R_drew)); exact HO_11.out⟩, ⟨by (with_reducible repeat (first | apply Kd.R_alloc | apply Kd.R_drewN | apply Kd.R_drew)); exact HO_14.out⟩, ⟨by repeat (first | (with_reducible first | exact HB.out | apply below_alloc | apply pw_below_drewN | apply below_drew1) | exact HB.out)⟩⟩
                                        · replace c31 := Bool.eq_false_iff.mpr c31
                                          subst c31
                                          have H1 : (plaitref19_Parse.j6 kj25 t277 true x8_1 x9_1 x10_3 x11_3 x13_1 t281 x20_3 x21_17 t296 true) = some (r1, r2, r3, r4) := by rw [if_neg (show ¬ (false = true) by decide)] at H; exact H
                                          clear H
                                          have H := H1
                                          clear H1
                                          have H' := Aside0.mk H
                                          clear H
                                          go_wp2
                                          go_meet
                                          case rel => exact ⟨_, (true), (by first | rfl | (simp; done) | (simp [*]; done)), H', ⟨by have := HK1.out; have := HJ7.out; have := HK3.out; have := HJ17.out; have := HJ25.out; first | omega | exact Nat.le_refl _⟩, ⟨by (with_reducible repeat (first | apply Kd.R_alloc | apply Kd.R_drewN | apply Kd.R_drew)); exact HO_6.out⟩, ⟨by (with_reducible repeat (first | apply Kd.S_alloc | apply Kd.S_drewN | apply Kd.S_drew)); exact HO_10.out⟩, ⟨by (with_reducible repeat (first | apply Kd.R_alloc | apply Kd.R_drewN | apply Kd.R_drew)); exact HO_11.out⟩, ⟨by (with_reducible repeat (first | apply Kd.R_alloc | apply Kd.R_drewN | apply Kd.R_drew)); exact HO_14.out⟩, ⟨by repeat (first | (with_reducible first | exact HB.out | apply below_alloc | apply pw_below_drewN | apply below_drew1) | exact HB.out)⟩⟩
                                      case rest =>
                                        clear HC30
                                        try clear c1
                                        try clear c2
                                        try clear c2b0
                                        try clear c2b1
                                        try clear p2
                                        try clear q2
                                        try clear hx2
                                        try clear qi2
                                        try clear c3
                                        try clear c4
                                        try clear c5
                                        try clear c5b0
                                        try clear c6
                                        try clear c6b0
                                        try clear p6
                                        try clear c11
                                        try clear c11b0
                                        try clear c11b1
                                        try clear c11b2
                                        try clear c13
                                        try clear c13b0
                                        try clear c13b1
                                        try clear c14
                                        try clear c15
                                        try clear c16
                                        try clear c17
                                        try clear c17b0
                                        try clear c20
                                        try clear c20b0
                                        try clear c21
                                        try clear c21b0
                                        try clear c21b1
                                        try clear c22
                                        try clear c22b0
                                        try clear c22b1
                                        try clear p23
                                        try clear q23
                                        try clear hx23
                                        try clear qi23
                                        try clear c24
                                        try clear c24b0
                                        try clear c25
                                        try clear c25b0
                                        try clear c27
                                        try clear c28
                                        try clear c28b0
                                        try clear c28b1
                                        try clear p28
                                        try clear q28
                                        try clear hx28
                                        try clear qi28
                                        try clear p29
                                        try clear q29
                                        try clear hx29
                                        try clear c31
                                        try clear c32
                                        try clear c32b0
                                        try clear c33
                                        try clear c34
                                        try clear c34b0
                                        try clear c34b1
                                        try clear hx280_0
                                        try clear hx284_0
                                        try clear hx293_0
                                        try clear hx294_0
                                        try clear hx295_0
                                        try clear p2
                                        try clear p23
                                        try clear p28
                                        try clear p280
                                        try clear p284
                                        try clear p293
                                        try clear p294
                                        try clear p295
                                        try clear p6
                                        try clear q2
                                        try clear q23
                                        try clear q28
                                        try clear q280
                                        try clear q284
                                        try clear q293
                                        try clear q294
                                        try clear q295
                                        obtain ⟨kq, x146_29, rfl, HA, HJ29, HO_6, HO_10, HO_11, HO_14, HB⟩ := hcut
                                        cases kq with
                                        | zero => exact absurd HA.out (by simp [plaitref19_Parse.j6])
                                        | succ kj29 =>
                                          have H := HA.out
                                          clear HA
                                          simp only [plaitref19_Parse.j6] at H
                                          by_cases c37 : x146_29 = true
                                          · subst c37
                                            have H1 : (some (([] : List (List Int)), 0, x13_1, 190)) = some (r1, r2, r3, r4) := by rw [if_pos rfl] at H; exact H
                                            clear H
                                            have H := H1
                                            clear H1
                                            simp only [Option.some.injEq, Prod.mk.injEq] at H
                                            obtain ⟨rfl, rfl, rfl, rfl⟩ := H
                                            go_wp2
                                            refine bodyPost_ret (results_list (rs := [.tmp 2, .tmp 3, .tmp 4, .tmp 5]) rfl (by simp) (.tmp (.tmp (.tmp (.tmp .nil))))) rfl ?_
                                            exact ⟨_, by first | rfl | (simp [errW_none, errW_some] <;> rfl) | (simp [*, errW_none, errW_some] <;> rfl), by first | exact Kd.S_nil _ _ _ _ _ | exact Kd.N_nil _ _ _ _ _ | exact Kd.V_nil _ _ _ _ _ | exact Kd.Q_nil _ _ _ _ _ | exact Kd.R_nil _ _ _ _ _, by repeat (first | (with_reducible first | exact HB.out | apply below_alloc | apply pw_below_drewN | apply below_drew1) | exact HB.out)⟩
                                          · replace c37 := Bool.eq_false_iff.mpr c37
                                            subst c37
                                            have H1 : (if t296 = 0 then (if x10_3.length < 5864062014805 then (plaitref19_Parse.l1 kj29 t277 true x8_1 x9_1 (x10_3 ++ [x11_3]) ([] : List Int) false x13_1 t281 (wrap64 (x20_3 + 1))) else (none)) else (if x21_17 = true then (if x11_3.length < 17592186044416 then (plaitref19_Parse.l1 kj29 t277 true x8_1 x9_1 x10_3 (x11_3 ++ [wrap64 (-t296)]) true x13_1 t281 (wrap64 (x20_3 + 1))) else (none)) else (if x11_3.length < 17592186044416 then (plaitref19_Parse.l1 kj29 t277 true x8_1 x9_1 x10_3 (x11_3 ++ [t296]) true x13_1 t281 (wrap64 (x20_3 + 1))) else (none)))) = some (r1, r2, r3, r4) := by rw [if_neg (show ¬ (false = true) by decide)] at H; exact H
                                            clear H
                                            have H := H1
                                            clear H1
                                            by_cases c38 : t296 = 0
                                            · rw [if_pos c38] at H
                                              have c38b0 : (t296 == 0) = true := beq_iff_eq.mpr c38
                                              have c38b1 : (t296 != 0) = false := bne_eq_false_iff_eq.mpr c38
                                              clear c38
                                              by_cases c39 : x10_3.length < 5864062014805
                                              · rw [if_pos c39] at H
                                                have LMc39 := Aside0.mk c39
                                                clear c39
                                                obtain ⟨y298, hy298⟩ : ∃ y_ : List (List Int), y_ = (x10_3 ++ [x11_3]) := ⟨_, rfl⟩
                                                replace H : (plaitref19_Parse.l1 kj29 t277 true x8_1 x9_1 y298 ([] : List Int) false x13_1 t281 (wrap64 (x20_3 + 1))) = some (r1, r2, r3, r4) := by first | (rw [hy298]; with_reducible exact H) | (have H2_ := (Option.bind_some _ _).symm.trans H; rw [hy298]; with_reducible exact H2_) | (have H2_ := (Option.bind_some _ _).symm.trans H; with_reducible exact H2_) | with_reducible exact H | (rw [hy298]; exact H) | exact H
                                                have Ny298 := Aside0.mk hy298
                                                clear hy298
                                                have H' := Aside0.mk H
                                                clear H
                                                obtain ⟨Ao41, co41, eo41⟩ := Kd.R_slice HO_11.out
                                                subst eo41
                                                go_wp2_with (first | ((with_reducible refine gate_builtin (b := .append) (xs := #[.tmp 150, .tmp 152]) rfl ?_); (try (refine gate_guard (by rfl) ?_; dsimp only)); at_builtin; refine Kd.S_append (Kd.slice 3 (Kd.int .i64)) (w0 := w) w.heap.size rfl (.tmp 150) (.tmp 152) 23 61 (.slice none 0 0) 24 rfl Tryz.underlying23 info61 rfl (by decide) (by omega) u10 x10_3 x11_3 [.slice Ao41 x11_3.length co41] (fun _ => True) (fun k_ => some k_ = (.slice Ao41 x11_3.length co41 : Value).ownBlock) rfl rfl ?aP (fun k_ hk_ => ((Kd.R_mono (ok' := fun k_ => ((fun _ => True)) k_ ∧ some k_ ≠ (u10 : Value).ownBlock) (Kd.R_apart' (HO_11.out) (Kd.S_typed HO_10.out) (by decide)) (fun k_ hk => ⟨trivial, hk.2⟩))).1 k_ hk_.symm) ?aF ?aO ?aB ?aS ?aL ?_; (case aP => exact Kd.M_row (Kd.R_mono (Kd.R_tight rfl (Kd.R_mono (ok' := fun k_ => ((fun _ => True)) k_ ∧ some k_ ≠ (u10 : Value).ownBlock) (Kd.R_apart' (HO_11.out) (Kd.S_typed HO_10.out) (by decide)) (fun k_ hk => ⟨trivial, hk.2⟩))) (fun _ h_ => h_))); (case aB => exact (by repeat (first | (with_reducible first | exact HB.out | apply below_alloc | apply pw_below_drewN | apply below_drew1) | exact HB.out))); (case aF => exact (fun _ _ => trivial)); (case aO => exact (by (with_reducible repeat (first | apply Kd.S_alloc | apply Kd.S_drewN | apply Kd.S_drew)); exact Kd.S_mono HO_10.out (fun k_ hk => ⟨trivial, fun e_ => hk e_⟩))); (case aS => exact (below_size (by repeat (first | (with_reducible first | exact HB.out | apply below_alloc | apply pw_below_drewN | apply below_drew1) | exact HB.out)))); (case aL => have := LMc39.out; omega); intro v299 w40 ho hb hg hat; rw [← Ny298.out] at ho; have n0_ := Aside0.mk (Kd.R_over' (by (with_reducible repeat (first | apply Kd.R_alloc | apply Kd.R_drewN | apply Kd.R_drew)); exact HO_6.out) (Kd.S_typed (by (with_reducible repeat (first | apply Kd.S_alloc | apply Kd.S_drewN | apply Kd.S_drew)); exact HO_10.out)) (by decide) hg); have n1_ := Aside0.mk (Kd.R_over' (by (with_reducible repeat (first | apply Kd.R_alloc | apply Kd.R_drewN | apply Kd.R_drew)); exact HO_14.out) (Kd.S_typed (by (with_reducible repeat (first | apply Kd.S_alloc | apply Kd.S_drewN | apply Kd.S_drew)); exact HO_10.out)) (by decide) hg); have n2_ := Aside0.mk (hb); have n3_ := Aside0.mk (ho); clear HO_6; clear HO_14; clear HB; clear HO_10; clear HO_11; have HO_6 := n0_; have HO_14 := n1_; have HB := n2_; have HO300 := n3_; clear n0_ n1_ n2_ n3_; clear ho hb hg hat))
                                                go_roundg kj29
                                                case measure => have := HK1.out; have := HJ7.out; have := HK3.out; have := HJ17.out; have := HJ25.out; have := HJ29.out; omega
                                                case rel => exact ⟨(y298), (([] : List Int)), (false), (wrap64 (x20_3 + 1)), (by first | rfl | (simp; done) | (simp [*]; done)), (by first | rfl | (simp; done) | (simp [*]; done)), H', ⟨by have := HK1.out; have := HJ7.out; have := HK3.out; have := HJ17.out; have := HJ25.out; have := HJ29.out; omega⟩, ⟨by (with_reducible repeat (first | apply Kd.R_alloc | apply Kd.R_drewN | apply Kd.R_drew)); exact HO_6.out⟩, ⟨by (with_reducible repeat (first | apply Kd.S_alloc | apply Kd.S_drewN | apply Kd.S_drew)); exact Kd.S_mono HO300.out (fun _ hk => (by simp [Value.ownBlock]))⟩, ⟨by first | exact Kd.R_nil _ _ _ _ _ | exact Kd.N_nil _ _ _ _ _ | exact Kd.V_nil _ _ _ _ _ | exact Kd.Q_nil _ _ _ _ _ | exact Kd.S_nil _ _ _ _ _⟩, ⟨by (with_reducible repeat (first | apply Kd.R_alloc | apply Kd.R_drewN | apply Kd.R_drew)); exact HO_14.out⟩, ⟨by repeat (first | (with_reducible first | exact HB.out | apply below_alloc | apply pw_below_drewN | apply below_drew1) | exact HB.out)⟩⟩
                                              · rw [if_neg c39] at H
                                                exact absurd H (by simp)
                                            · rw [if_neg c38] at H
                                              have c38b0 : (t296 == 0) = false := beq_eq_false_iff_ne.mpr c38
                                              have c38b1 : (t296 != 0) = true := bne_iff_ne.mpr c38
                                              by_cases c42 : x21_17 = true
                                              · subst c42
                                                have H1 : (if x11_3.length < 17592186044416 then (plaitref19_Parse.l1 kj29 t277 true x8_1 x9_1 x10_3 (x11_3 ++ [wrap64 (-t296)]) true x13_1 t281 (wrap64 (x20_3 + 1))) else (none)) = some (r1, r2, r3, r4) := by rw [if_pos rfl] at H; exact H
                                                clear H
                                                have H := H1
                                                clear H1
                                                by_cases c43 : x11_3.length < 17592186044416
                                                · rw [if_pos c43] at H
                                                  have LMc43 := Aside0.mk c43
                                                  clear c43
                                                  obtain ⟨y301, hy301⟩ : ∃ y_ : List Int, y_ = (x11_3 ++ [wrap64 (-t296)]) := ⟨_, rfl⟩
                                                  replace H : (plaitref19_Parse.l1 kj29 t277 true x8_1 x9_1 x10_3 y301 true x13_1 t281 (wrap64 (x20_3 + 1))) = some (r1, r2, r3, r4) := by first | (rw [hy301]; with_reducible exact H) | (have H2_ := (Option.bind_some _ _).symm.trans H; rw [hy301]; with_reducible exact H2_) | (have H2_ := (Option.bind_some _ _).symm.trans H; with_reducible exact H2_) | with_reducible exact H | (rw [hy301]; exact H) | exact H
                                                  have Ny301 := Aside0.mk hy301
                                                  clear hy301
                                                  have H' := Aside0.mk H
                                                  clear H
                                                  go_wp2_with (first | ((with_reducible refine gate_builtin (b := .append) (xs := #[.tmp 157, .tmp 159]) rfl ?_); (try (refine gate_guard (by rfl) ?_; dsimp only)); at_builtin; refine Kd.R_append (Kd.int .i64) (w0 := w) w.heap.size rfl (.tmp 157) (.tmp 159) 61 3 (.int .i64 0) 8 rfl Tryz.underlying61 info3 rfl (by decide) (by omega) u11 x11_3 (wrap64 (-t296)) [.int .i64 (wrap64 (-t296))] (fun _ => True) (fun _ => False) rfl rfl ?aP (fun _ hk => hk.elim) ?aF ?aO ?aB ?aS ?aL ?_; (case aP => exact rfl); (case aB => exact (by repeat (first | (with_reducible first | exact HB.out | apply below_alloc | apply pw_below_drewN | apply below_drew1) | exact HB.out))); (case aF => exact (fun _ _ => trivial)); (case aO => exact (by (with_reducible repeat (first | apply Kd.R_alloc | apply Kd.R_drewN | apply Kd.R_drew)); exact HO_11.out)); (case aS => exact (below_size (by repeat (first | (with_reducible first | exact HB.out | apply below_alloc | apply pw_below_drewN | apply below_drew1) | exact HB.out)))); (case aL => have := LMc43.out; omega); intro v302 w44 ho hb hg hat; rw [← Ny301.out] at ho; have n0_ := Aside0.mk (Kd.R_over' (by (with_reducible repeat (first | apply Kd.R_alloc | apply Kd.R_drewN | apply Kd.R_drew)); exact HO_6.out) (Kd.R_typed (by (with_reducible repeat (first | apply Kd.R_alloc | apply Kd.R_drewN | apply Kd.R_drew)); exact HO_11.out)) (by decide) hg); have n1_ := Aside0.mk (Kd.S_after (ok := (fun _ => True)) (by (with_reducible repeat (first | apply Kd.S_alloc | apply Kd.S_drewN | apply Kd.S_drew)); exact Kd.S_mono HO_10.out (fun _ hk => ⟨trivial, hk⟩)) hg hat); have n2_ := Aside0.mk (Kd.R_over' (by (with_reducible repeat (first | apply Kd.R_alloc | apply Kd.R_drewN | apply Kd.R_drew)); exact HO_14.out) (Kd.R_typed (by (with_reducible repeat (first | apply Kd.R_alloc | apply Kd.R_drewN | apply Kd.R_drew)); exact HO_11.out)) (by decide) hg); have n3_ := Aside0.mk (hb); have n4_ := Aside0.mk (ho); clear HO_6; clear HO_10; clear HO_14; clear HB; clear HO_11; have HO_6 := n0_; have HO_10 := n1_; have HO_14 := n2_; have HB := n3_; have HO303 := n4_; clear n0_ n1_ n2_ n3_ n4_; clear ho hb hg hat))
                                                  go_roundg kj29
                                                  case measure => have := HK1.out; have := HJ7.out; have := HK3.out; have := HJ17.out; have := HJ25.out; have := HJ29.out; omega
                                                  case rel => exact ⟨(x10_3), (y301), (true), (wrap64 (x20_3 + 1)), (by first | rfl | (simp; done) | (simp [*]; done)), (by first | rfl | (simp; done) | (simp [*]; done)), H', ⟨by have := HK1.out; have := HJ7.out; have := HK3.out; have := HJ17.out; have := HJ25.out; have := HJ29.out; omega⟩, ⟨by (with_reducible repeat (first | apply Kd.R_alloc | apply Kd.R_drewN | apply Kd.R_drew)); exact HO_6.out⟩, ⟨by (with_reducible repeat (first | apply Kd.S_alloc | apply Kd.S_drewN | apply Kd.S_drew)); exact Kd.S_mono HO_10.out (fun _ hk => hk.2)⟩, ⟨by (with_reducible repeat (first | apply Kd.R_alloc | apply Kd.R_drewN | apply Kd.R_drew)); exact HO303.out⟩, ⟨by (with_reducible repeat (first | apply Kd.R_alloc | apply Kd.R_drewN | apply Kd.R_drew)); exact HO_14.out⟩, ⟨by repeat (first | (with_reducible first | exact HB.out | apply below_alloc | apply pw_below_drewN | apply below_drew1) | exact HB.out)⟩⟩
                                                · rw [if_neg c43] at H
                                                  exact absurd H (by simp)
                                              · replace c42 := Bool.eq_false_iff.mpr c42
                                                subst c42
                                                have H1 : (if x11_3.length < 17592186044416 then (plaitref19_Parse.l1 kj29 t277 true x8_1 x9_1 x10_3 (x11_3 ++ [t296]) true x13_1 t281 (wrap64 (x20_3 + 1))) else (none)) = some (r1, r2, r3, r4) := by rw [if_neg (show ¬ (false = true) by decide)] at H; exact H
                                                clear H
                                                have H := H1
                                                clear H1
                                                by_cases c45 : x11_3.length < 17592186044416
                                                · rw [if_pos c45] at H
                                                  have LMc45 := Aside0.mk c45
                                                  clear c45
                                                  obtain ⟨y304, hy304⟩ : ∃ y_ : List Int, y_ = (x11_3 ++ [t296]) := ⟨_, rfl⟩
                                                  replace H : (plaitref19_Parse.l1 kj29 t277 true x8_1 x9_1 x10_3 y304 true x13_1 t281 (wrap64 (x20_3 + 1))) = some (r1, r2, r3, r4) := by first | (rw [hy304]; with_reducible exact H) | (have H2_ := (Option.bind_some _ _).symm.trans H; rw [hy304]; with_reducible exact H2_) | (have H2_ := (Option.bind_some _ _).symm.trans H; with_reducible exact H2_) | with_reducible exact H | (rw [hy304]; exact H) | exact H
                                                  have Ny304 := Aside0.mk hy304
                                                  clear hy304
                                                  have H' := Aside0.mk H
                                                  clear H
                                                  go_wp2_with (first | ((with_reducible refine gate_builtin (b := .append) (xs := #[.tmp 157, .tmp 159]) rfl ?_); (try (refine gate_guard (by rfl) ?_; dsimp only)); at_builtin; refine Kd.R_append (Kd.int .i64) (w0 := w) w.heap.size rfl (.tmp 157) (.tmp 159) 61 3 (.int .i64 0) 8 rfl Tryz.underlying61 info3 rfl (by decide) (by omega) u11 x11_3 t296 [.int .i64 t296] (fun _ => True) (fun _ => False) rfl rfl ?aP (fun _ hk => hk.elim) ?aF ?aO ?aB ?aS ?aL ?_; (case aP => exact rfl); (case aB => exact (by repeat (first | (with_reducible first | exact HB.out | apply below_alloc | apply pw_below_drewN | apply below_drew1) | exact HB.out))); (case aF => exact (fun _ _ => trivial)); (case aO => exact (by (with_reducible repeat (first | apply Kd.R_alloc | apply Kd.R_drewN | apply Kd.R_drew)); exact HO_11.out)); (case aS => exact (below_size (by repeat (first | (with_reducible first | exact HB.out | apply below_alloc | apply pw_below_drewN | apply below_drew1) | exact HB.out)))); (case aL => have := LMc45.out; omega); intro v305 w46 ho hb hg hat; rw [← Ny304.out] at ho; have n0_ := Aside0.mk (Kd.R_over' (by (with_reducible repeat (first | apply Kd.R_alloc | apply Kd.R_drewN | apply Kd.R_drew)); exact HO_6.out) (Kd.R_typed (by (with_reducible repeat (first | apply Kd.R_alloc | apply Kd.R_drewN | apply Kd.R_drew)); exact HO_11.out)) (by decide) hg); have n1_ := Aside0.mk (Kd.S_after (ok := (fun _ => True)) (by (with_reducible repeat (first | apply Kd.S_alloc | apply Kd.S_drewN | apply Kd.S_drew)); exact Kd.S_mono HO_10.out (fun _ hk => ⟨trivial, hk⟩)) hg hat); have n2_ := Aside0.mk (Kd.R_over' (by (with_reducible repeat (first | apply Kd.R_alloc | apply Kd.R_drewN | apply Kd.R_drew)); exact HO_14.out) (Kd.R_typed (by (with_reducible repeat (first | apply Kd.R_alloc | apply Kd.R_drewN | apply Kd.R_drew)); exact HO_11.out)) (by decide) hg); have n3_ := Aside0.mk (hb); have n4_ := Aside0.mk (ho); clear HO_6; clear HO_10; clear HO_14; clear HB; clear HO_11; have HO_6 := n0_; have HO_10 := n1_; have HO_14 := n2_; have HB := n3_; have HO306 := n4_; clear n0_ n1_ n2_ n3_ n4_; clear ho hb hg hat))
                                                  go_roundg kj29
                                                  case measure => have := HK1.out; have := HJ7.out; have := HK3.out; have := HJ17.out; have := HJ25.out; have := HJ29.out; omega
                                                  case rel => exact ⟨(x10_3), (y304), (true), (wrap64 (x20_3 + 1)), (by first | rfl | (simp; done) | (simp [*]; done)), (by first | rfl | (simp; done) | (simp [*]; done)), H', ⟨by have := HK1.out; have := HJ7.out; have := HK3.out; have := HJ17.out; have := HJ25.out; have := HJ29.out; omega⟩, ⟨by (with_reducible repeat (first | apply Kd.R_alloc | apply Kd.R_drewN | apply Kd.R_drew)); exact HO_6.out⟩, ⟨by (with_reducible repeat (first | apply Kd.S_alloc | apply Kd.S_drewN | apply Kd.S_drew)); exact Kd.S_mono HO_10.out (fun _ hk => hk.2)⟩, ⟨by (with_reducible repeat (first | apply Kd.R_alloc | apply Kd.R_drewN | apply Kd.R_drew)); exact HO306.out⟩, ⟨by (with_reducible repeat (first | apply Kd.R_alloc | apply Kd.R_drewN | apply Kd.R_drew)); exact HO_14.out⟩, ⟨by repeat (first | (with_reducible first | exact HB.out | apply below_alloc | apply pw_below_drewN | apply below_drew1) | exact HB.out)⟩⟩
                                                · rw [if_neg c45] at H
                                                  exact absurd H (by simp)
                                · rw [if_neg c25] at H
                                  exact absurd H (by simp)
                              · rw [if_neg c24] at H
                                exact absurd H (by simp)
                        · rw [if_neg c17] at H
                          have c17b0 : decide (x20_3 < (t281.length : Int)) = false := decide_eq_false c17
                          clear c17
                          have H' := Aside0.mk H
                          clear H
                          obtain ⟨Ao47, co47, eo47⟩ := Kd.R_slice HO_14.out
                          subst eo47
                          go_wp2
                          go_roundg k3
                          case measure => have := HK1.out; have := HJ7.out; have := HK3.out; omega
                          case rel => exact ⟨(true), (x8_1), (x9_1), (x10_3), (x11_3), (x12_3), (wrap64 (x13_1 + 1)), (by first | rfl | (simp; done) | (simp [*]; done)), (by first | rfl | (simp; done) | (simp [*]; done)), (by first | rfl | (simp; done) | (simp [*]; done)), (by first | rfl | (simp; done) | (simp [*]; done)), (by first | rfl | (simp; done) | (simp [*]; done)), H', ⟨by have := HK1.out; have := HJ7.out; have := HK3.out; omega⟩, ⟨by (with_reducible repeat (first | apply Kd.R_alloc | apply Kd.R_drewN | apply Kd.R_drew)); exact Kd.R_mono HO_6.out (fun _ hk => trivial)⟩, ⟨by (with_reducible repeat (first | apply Kd.S_alloc | apply Kd.S_drewN | apply Kd.S_drew)); exact HO_10.out⟩, ⟨by (with_reducible repeat (first | apply Kd.R_alloc | apply Kd.R_drewN | apply Kd.R_drew)); exact HO_11.out⟩, ⟨by repeat (first | (with_reducible first | exact HB.out | apply below_alloc | apply pw_below_drewN | apply below_drew1) | exact HB.out)⟩⟩
                  · replace c16 := Bool.eq_false_iff.mpr c16
                    subst c16
                    have H1 : (if (t281.length : Int) = 4 then (if 0 < (t281.length : Int) then (if (rdOf ByteArray.empty t281 0).toList = ([112] : List UInt8) then (if 1 < (t281.length : Int) then (plaitref19_Parse.j2 kj7 t277 x10_1 x11_1 x12_1 x13_1 t281 ((rdOf ByteArray.empty t281 1).toList == ([99, 110, 102] : List UInt8))) else (none)) else (plaitref19_Parse.j2 kj7 t277 x10_1 x11_1 x12_1 x13_1 t281 false)) else (none)) else (plaitref19_Parse.j2 kj7 t277 x10_1 x11_1 x12_1 x13_1 t281 false)) = some (r1, r2, r3, r4) := by rw [if_neg (show ¬ (false = true) by decide)] at H; exact H
                    clear H
                    have H := H1
                    clear H1
                    have HC48 := Aside0.mk H
                    clear H
                    go_upto_region 15 with (fail)
                    go_cut [15] (fun v15 wc => ∃ (kq : Nat) (x15_47 : Bool), v15 = .bool x15_47 ∧ Aside0 (plaitref19_Parse.j2 kq t277 x10_1 x11_1 x12_1 x13_1 t281 x15_47 = some (r1, r2, r3, r4)) ∧ Aside0 (kq ≤ kj7) ∧ Aside0 (Kd.R Kd.string 9 wc w.heap.size (fun k_ => some k_ ≠ (v282 : Value).ownBlock) (.slice (some ad280) t277.length co9) t277) ∧ Aside0 (Kd.S (Kd.slice 3 (Kd.int .i64)) 61 wc w.heap.size (fun k_ => some k_ ≠ (u11 : Value).ownBlock) u10 x10_1) ∧ Aside0 (Kd.R (Kd.int .i64) 3 wc w.heap.size (fun _ => True) u11 x11_1) ∧ Aside0 (Kd.R Kd.string 9 wc w.heap.size (fun k_ => some k_ ≠ ((.slice (some ad280) t277.length co9) : Value).ownBlock) v282 t281) ∧ Aside0 (Below w.heap.size w wc))
                    case first =>
                      have H := HC48.out
                      clear HC48
                      by_cases c49 : (t281.length : Int) = 4
                      · rw [if_pos c49] at H
                        have c49b0 : ((t281.length : Int) == 4) = true := beq_iff_eq.mpr c49
                        have c49b1 : ((t281.length : Int) != 4) = false := bne_eq_false_iff_eq.mpr c49
                        clear c49
                        (first | rw [c49b0] | (simp only [i64_w, i32_w]; rw [c49b0]) | skip)
                        by_cases c50 : 0 < (t281.length : Int)
                        · rw [if_pos c50] at H
                          have c50b0 : decide (0 < (t281.length : Int)) = true := decide_eq_true c50
                          have c50b1 : decide (0 < t281.length) = true := decide_eq_true (by omega)
                          clear c50
                          by_cases c51 : (rdOf ByteArray.empty t281 0).toList = ([112] : List UInt8)
                          · rw [if_pos c51] at H
                            have c51b0 : ((rdOf ByteArray.empty t281 0).toList == ([112] : List UInt8)) = true := beq_iff_eq.mpr c51
                            have c51b1 : ((rdOf ByteArray.empty t281 0).toList != ([112] : List UInt8)) = false := bne_eq_false_iff_eq.mpr c51
                            clear c51
                            by_cases c52 : 1 < (t281.length : Int)
                            · rw [if_pos c52] at H
                              have c52b0 : decide (1 < (t281.length : Int)) = true := decide_eq_true c52
                              have c52b1 : decide (1 < t281.length) = true := decide_eq_true (by omega)
                              clear c52
                              have H' := Aside0.mk H
                              clear H
                              obtain ⟨Ao53, co53, eo53⟩ := Kd.R_slice HO_14.out
                              subst eo53
                              have p285 : 0 ≤ (0 : Int) := (by omega)
                              have q285 : 0 < (t281.length : Int) := of_decide_eq_true (by first | (with_reducible assumption) | assumption)
                              obtain ⟨ad285, e285, hx285_0⟩ := Kd.at_string (Kd.R_reads' HO_14.out).2.2 0 p285 q285
                              cases e285
                              have qi285 : (0 < t281.length) = True := eq_true (by omega)
                              (try rw [show ((0 : Int)).toNat = 0 from rfl] at hx285_0)
                              (try rw [Addr.add_zero'] at hx285_0)
                              replace p285 := eq_true p285
                              replace q285 := eq_true q285
                              have p286 : 0 ≤ (1 : Int) := (by omega)
                              have q286 : 1 < (t281.length : Int) := of_decide_eq_true (by first | (with_reducible assumption) | assumption)
                              obtain ⟨ad286, e286, hx286_0⟩ := Kd.at_string (Kd.R_reads' HO_14.out).2.2 1 p286 q286
                              obtain rfl : ad285 = ad286 := (by injection e286)
                              (try simp only [show (1 : Int).toNat = 1 from rfl, Nat.reduceMul, Nat.reduceEqDiff, Go.Addr.add, ↓reduceIte] at hx286_0)
                              have qi286 : (1 < t281.length) = True := eq_true (by omega)
                              (try rw [show ((1 : Int)).toNat = 1 from rfl] at hx286_0)
                              replace p286 := eq_true p286
                              replace q286 := eq_true q286
                              go_wp2
                              go_meet
                              case rel => exact ⟨_, (((rdOf ByteArray.empty t281 1).toList == ([99, 110, 102] : List UInt8))), (by first | rfl | (simp; done) | (simp [*]; done)), H', ⟨by have := HK1.out; have := HJ7.out; first | omega | exact Nat.le_refl _⟩, ⟨by (with_reducible repeat (first | apply Kd.R_alloc | apply Kd.R_drewN | apply Kd.R_drew)); exact HO_6.out⟩, ⟨by (with_reducible repeat (first | apply Kd.S_alloc | apply Kd.S_drewN | apply Kd.S_drew)); exact HO_10.out⟩, ⟨by (with_reducible repeat (first | apply Kd.R_alloc | apply Kd.R_drewN | apply Kd.R_drew)); exact HO_11.out⟩, ⟨by (with_reducible repeat (first | apply Kd.R_alloc | apply Kd.R_drewN | apply Kd.R_drew)); exact HO_14.out⟩, ⟨by repeat (first | (with_reducible first | exact HB.out | apply below_alloc | apply pw_below_drewN | apply below_drew1) | exact HB.out)⟩⟩
                            · rw [if_neg c52] at H
                              exact absurd H (by simp)
                          · rw [if_neg c51] at H
                            have c51b0 : ((rdOf ByteArray.empty t281 0).toList == ([112] : List UInt8)) = false := beq_eq_false_iff_ne.mpr c51
                            have c51b1 : ((rdOf ByteArray.empty t281 0).toList != ([112] : List UInt8)) = true := bne_iff_ne.mpr c51
                            have H' := Aside0.mk H
                            clear H
                            obtain ⟨Ao54, co54, eo54⟩ := Kd.R_slice HO_14.out
                            subst eo54
                            have p285 : 0 ≤ (0 : Int) := (by omega)
                            have q285 : 0 < (t281.length : Int) := of_decide_eq_true (by first | (with_reducible assumption) | assumption)
                            obtain ⟨ad285, e285, hx285_0⟩ := Kd.at_string (Kd.R_reads' HO_14.out).2.2 0 p285 q285
                            cases e285
                            have qi285 : (0 < t281.length) = True := eq_true (by omega)
                            (try rw [show ((0 : Int)).toNat = 0 from rfl] at hx285_0)
                            (try rw [Addr.add_zero'] at hx285_0)
                            replace p285 := eq_true p285
                            replace q285 := eq_true q285
                            go_wp2
                            go_meet
                            case rel => exact ⟨_, (false), (by first | rfl | (simp; done) | (simp [*]; done)), H', ⟨by have := HK1.out; have := HJ7.out; first | omega | exact Nat.le_refl _⟩, ⟨by (with_reducible repeat (first | apply Kd.R_alloc | apply Kd.R_drewN | apply Kd.R_drew)); exact HO_6.out⟩, ⟨by (with_reducible repeat (first | apply Kd.S_alloc | apply Kd.S_drewN | apply Kd.S_drew)); exact HO_10.out⟩, ⟨by (with_reducible repeat (first | apply Kd.R_alloc | apply Kd.R_drewN | apply Kd.R_drew)); exact HO_11.out⟩, ⟨by (with_reducible repeat (first | apply Kd.R_alloc | apply Kd.R_drewN | apply Kd.R_drew)); exact HO_14.out⟩, ⟨by repeat (first | (with_reducible first | exact HB.out | apply below_alloc | apply pw_below_drewN | apply below_drew1) | exact HB.out)⟩⟩
                        · rw [if_neg c50] at H
                          exact absurd H (by simp)
                      · rw [if_neg c49] at H
                        have c49b0 : ((t281.length : Int) == 4) = false := beq_eq_false_iff_ne.mpr c49
                        have c49b1 : ((t281.length : Int) != 4) = true := bne_iff_ne.mpr c49
                        (first | rw [c49b0] | (simp only [i64_w, i32_w]; rw [c49b0]) | skip)
                        have H' := Aside0.mk H
                        clear H
                        obtain ⟨Ao55, co55, eo55⟩ := Kd.R_slice HO_14.out
                        subst eo55
                        go_wp2
                        go_meet
                        case rel => exact ⟨_, (false), (by first | rfl | (simp; done) | (simp [*]; done)), H', ⟨by have := HK1.out; have := HJ7.out; first | omega | exact Nat.le_refl _⟩, ⟨by (with_reducible repeat (first | apply Kd.R_alloc | apply Kd.R_drewN | apply Kd.R_drew)); exact HO_6.out⟩, ⟨by (with_reducible repeat (first | apply Kd.S_alloc | apply Kd.S_drewN | apply Kd.S_drew)); exact HO_10.out⟩, ⟨by (with_reducible repeat (first | apply Kd.R_alloc | apply Kd.R_drewN | apply Kd.R_drew)); exact HO_11.out⟩, ⟨by (with_reducible repeat (first | apply Kd.R_alloc | apply Kd.R_drewN | apply Kd.R_drew)); exact HO_14.out⟩, ⟨by repeat (first | (with_reducible first | exact HB.out | apply below_alloc | apply pw_below_drewN | apply below_drew1) | exact HB.out)⟩⟩
                    case rest =>
                      clear HC48
                      try clear c1
                      try clear c2
                      try clear c2b0
                      try clear c2b1
                      try clear p2
                      try clear q2
                      try clear hx2
                      try clear qi2
                      try clear c3
                      try clear c4
                      try clear c5
                      try clear c5b0
                      try clear c6
                      try clear c6b0
                      try clear p6
                      try clear c11
                      try clear c11b0
                      try clear c11b1
                      try clear c11b2
                      try clear c13
                      try clear c13b0
                      try clear c13b1
                      try clear c14
                      try clear c15
                      try clear c16
                      try clear c17
                      try clear c17b0
                      try clear c20
                      try clear c20b0
                      try clear c21
                      try clear c21b0
                      try clear c21b1
                      try clear c22
                      try clear c22b0
                      try clear c22b1
                      try clear p23
                      try clear q23
                      try clear hx23
                      try clear qi23
                      try clear c24
                      try clear c24b0
                      try clear c25
                      try clear c25b0
                      try clear c27
                      try clear c28
                      try clear c28b0
                      try clear c28b1
                      try clear p28
                      try clear q28
                      try clear hx28
                      try clear qi28
                      try clear p29
                      try clear q29
                      try clear hx29
                      try clear c31
                      try clear c32
                      try clear c32b0
                      try clear c33
                      try clear c34
                      try clear c34b0
                      try clear c34b1
                      try clear c37
                      try clear c38
                      try clear c38b0
                      try clear c38b1
                      try clear c39
                      try clear c42
                      try clear c43
                      try clear c45
                      try clear c48
                      try clear c49
                      try clear c49b0
                      try clear c49b1
                      try clear c50
                      try clear c50b0
                      try clear c50b1
                      try clear c51
                      try clear c51b0
                      try clear c51b1
                      try clear c52
                      try clear c52b0
                      try clear c52b1
                      try clear hx280_0
                      try clear hx284_0
                      try clear hx285_0
                      try clear hx286_0
                      try clear hx293_0
                      try clear hx294_0
                      try clear hx295_0
                      try clear p2
                      try clear p23
                      try clear p28
                      try clear p280
                      try clear p284
                      try clear p285
                      try clear p286
                      try clear p29
                      try clear p293
                      try clear p294
                      try clear p295
                      try clear p6
                      try clear q2
                      try clear q23
                      try clear q28
                      try clear q280
                      try clear q284
                      try clear q285
                      try clear q286
                      try clear q29
                      try clear q293
                      try clear q294
                      try clear q295
                      obtain ⟨kq, x15_47, rfl, HA, HJ47, HO_6, HO_10, HO_11, HO_14, HB⟩ := hcut
                      cases kq with
                      | zero => exact absurd HA.out (by simp [plaitref19_Parse.j2])
                      | succ kj47 =>
                        have H := HA.out
                        clear HA
                        simp only [plaitref19_Parse.j2] at H
                        by_cases c56 : x15_47 = true
                        · subst c56
                          have H1 : (if 2 < (t281.length : Int) then ((plaitref19_number.f kj47 (rdOf ByteArray.empty t281 2)).bind fun bt288 => (if 3 < (t281.length : Int) then ((plaitref19_number.f kj47 (rdOf ByteArray.empty t281 3)).bind fun bt291 => (if bt288.2 = true then (if bt291.2 = true then (if bt288.1 ≤ 65536 then (plaitref19_Parse.l0 kj47 t277 true bt288.1 bt291.1 x10_1 x11_1 x12_1 (wrap64 (x13_1 + 1))) else (some (([] : List (List Int)), 0, x13_1, 190))) else (some (([] : List (List Int)), 0, x13_1, 190))) else (some (([] : List (List Int)), 0, x13_1, 190)))) else (none))) else (none)) = some (r1, r2, r3, r4) := by rw [if_pos rfl] at H; exact H
                          clear H
                          have H := H1
                          clear H1
                          by_cases c57 : 2 < (t281.length : Int)
                          · rw [if_pos c57] at H
                            have c57b0 : decide (2 < (t281.length : Int)) = true := decide_eq_true c57
                            have c57b1 : decide (2 < t281.length) = true := decide_eq_true (by omega)
                            clear c57
                            replace H := Option.bind_eq_some_iff.mp H
                            obtain ⟨⟨t288, t289⟩, A580, H⟩ := H
                            replace H : (if 3 < (t281.length : Int) then ((plaitref19_number.f kj47 (rdOf ByteArray.empty t281 3)).bind fun bt291 => (if t289 = true then (if bt291.2 = true then (if t288 ≤ 65536 then (plaitref19_Parse.l0 kj47 t277 true t288 bt291.1 x10_1 x11_1 x12_1 (wrap64 (x13_1 + 1))) else (some (([] : List (List Int)), 0, x13_1, 190))) else (some (([] : List (List Int)), 0, x13_1, 190))) else (some (([] : List (List Int)), 0, x13_1, 190)))) else (none)) = some (r1, r2, r3, r4) := H
                            have A58 := Aside0.mk A580
                            clear A580
                            by_cases c59 : 3 < (t281.length : Int)
                            · rw [if_pos c59] at H
                              have c59b0 : decide (3 < (t281.length : Int)) = true := decide_eq_true c59
                              have c59b1 : decide (3 < t281.length) = true := decide_eq_true (by omega)
                              clear c59
                              replace H := Option.bind_eq_some_iff.mp H
                              obtain ⟨⟨t291, t292⟩, A600, H⟩ := H
                              replace H : (if t289 = true then (if t292 = true then (if t288 ≤ 65536 then (plaitref19_Parse.l0 kj47 t277 true t288 t291 x10_1 x11_1 x12_1 (wrap64 (x13_1 + 1))) else (some (([] : List (List Int)), 0, x13_1, 190))) else (some (([] : List (List Int)), 0, x13_1, 190))) else (some (([] : List (List Int)), 0, x13_1, 190))) = some (r1, r2, r3, r4) := H
                              have A60 := Aside0.mk A600
                              clear A600
                              by_cases c61 : t289 = true
                              · subst c61
                                have H1 : (if t292 = true then (if t288 ≤ 65536 then (plaitref19_Parse.l0 kj47 t277 true t288 t291 x10_1 x11_1 x12_1 (wrap64 (x13_1 + 1))) else (some (([] : List (List Int)), 0, x13_1, 190))) else (some (([] : List (List Int)), 0, x13_1, 190))) = some (r1, r2, r3, r4) := by rw [if_pos rfl] at H; exact H
                                clear H
                                have H := H1
                                clear H1
                                by_cases c62 : t292 = true
                                · subst c62
                                  have H1 : (if t288 ≤ 65536 then (plaitref19_Parse.l0 kj47 t277 true t288 t291 x10_1 x11_1 x12_1 (wrap64 (x13_1 + 1))) else (some (([] : List (List Int)), 0, x13_1, 190))) = some (r1, r2, r3, r4) := by rw [if_pos rfl] at H; exact H
                                  clear H
                                  have H := H1
                                  clear H1
                                  by_cases c63 : t288 ≤ 65536
                                  · rw [if_pos c63] at H
                                    have c63b0 : decide (t288 ≤ 65536) = true := decide_eq_true c63
                                    clear c63
                                    have H' := Aside0.mk H
                                    clear H
                                    obtain ⟨Ao64, co64, eo64⟩ := Kd.R_slice HO_14.out
                                    subst eo64
                                    have p287 : 0 ≤ (2 : Int) := (by omega)
                                    have q287 : 2 < (t281.length : Int) := of_decide_eq_true (by first | (with_reducible assumption) | assumption)
                                    obtain ⟨ad287, e287, hx287_0⟩ := Kd.at_string (Kd.R_reads' HO_14.out).2.2 2 p287 q287
                                    cases e287
                                    (try simp only [show (2 : Int).toNat = 2 from rfl, Nat.reduceMul, Nat.reduceEqDiff, Go.Addr.add, ↓reduceIte] at hx287_0)
                                    have qi287 : (2 < t281.length) = True := eq_true (by omega)
                                    (try rw [show ((2 : Int)).toNat = 2 from rfl] at hx287_0)
                                    replace p287 := eq_true p287
                                    replace q287 := eq_true q287
                                    go_wp2_with (first | ((with_reducible refine gate_callee (f := 48) rfl ?_); refine goesL_ (some 72) rfl rfl Tryz.func48 (by kernel_rfl) rfl #[.string (rdOf ByteArray.empty t281 2)] rfl (by (try simp only [List.map_toArray, List.map_cons, List.map_nil]); first | done | rfl | (simp only [List.length_drop, List.length_take]; rfl)) ?_; (with_reducible refine (plaitref19_number.calls kj47 (rdOf ByteArray.empty t281 2) t288 true _ A58.out).mono ?_); rintro e w' ⟨rfl, ⟨nd, rfl⟩⟩; refine ⟨_, rfl, ?_⟩; have p290 : 0 ≤ (3 : Int) := (by omega); have q290 : 3 < (t281.length : Int) := of_decide_eq_true (by first | (with_reducible assumption) | assumption); obtain ⟨ad290, e290, hx290_0⟩ := Kd.at_string (Kd.R_reads' HO_14.out).2.2 3 p290 q290; obtain rfl : ad287 = ad290 := (by injection e290); (try simp only [show (3 : Int).toNat = 3 from rfl, Nat.reduceMul, Nat.reduceEqDiff, Go.Addr.add, ↓reduceIte] at hx290_0); have qi290 : (3 < t281.length) = True := eq_true (by omega); (try rw [show ((3 : Int)).toNat = 3 from rfl] at hx290_0); replace p290 := eq_true p290; replace q290 := eq_true q290) | ((with_reducible refine gate_callee (f := 48) rfl ?_); refine goesL_ (some 79) rfl rfl Tryz.func48 (by kernel_rfl) rfl #[.string (rdOf ByteArray.empty t281 3)] rfl (by (try simp only [List.map_toArray, List.map_cons, List.map_nil]); first | done | rfl | (simp only [List.length_drop, List.length_take]; rfl)) ?_; (with_reducible refine (plaitref19_number.calls kj47 (rdOf ByteArray.empty t281 3) t291 true _ A60.out).mono ?_); rintro e w' ⟨rfl, ⟨nd, rfl⟩⟩; refine ⟨_, rfl, ?_⟩))
                                    go_roundg kj47
                                    case measure => have := HK1.out; have := HJ7.out; have := HJ47.out; omega
                                    case rel => exact ⟨(true), (t288), (t291), (x10_1), (x11_1), (x12_1), (wrap64 (x13_1 + 1)), (by first | rfl | (simp; done) | (simp [*]; done)), (by first | rfl | (simp; done) | (simp [*]; done)), (by first | rfl | (simp; done) | (simp [*]; done)), (by first | rfl | (simp; done) | (simp [*]; done)), (by first | rfl | (simp; done) | (simp [*]; done)), H', ⟨by have := HK1.out; have := HJ7.out; have := HJ47.out; omega⟩, ⟨by (with_reducible repeat (first | apply Kd.R_alloc | apply Kd.R_drewN | apply Kd.R_drew)); exact Kd.R_mono HO_6.out (fun _ hk => trivial)⟩, ⟨by (with_reducible repeat (first | apply Kd.S_alloc | apply Kd.S_drewN | apply Kd.S_drew)); exact HO_10.out⟩, ⟨by (with_reducible repeat (first | apply Kd.R_alloc | apply Kd.R_drewN | apply Kd.R_drew)); exact HO_11.out⟩, ⟨by repeat (first | (with_reducible first | exact HB.out | apply below_alloc | apply pw_below_drewN | apply below_drew1) | exact HB.out)⟩⟩
                                  · rw [if_neg c63] at H
                                    have c63b0 : decide (t288 ≤ 65536) = false := decide_eq_false c63
                                    clear c63
                                    simp only [Option.some.injEq, Prod.mk.injEq] at H
                                    obtain ⟨rfl, rfl, rfl, rfl⟩ := H
                                    obtain ⟨Ao65, co65, eo65⟩ := Kd.R_slice HO_14.out
                                    subst eo65
                                    have p287 : 0 ≤ (2 : Int) := (by omega)
                                    have q287 : 2 < (t281.length : Int) := of_decide_eq_true (by first | (with_reducible assumption) | assumption)
                                    obtain ⟨ad287, e287, hx287_0⟩ := Kd.at_string (Kd.R_reads' HO_14.out).2.2 2 p287 q287
                                    cases e287
                                    (try simp only [show (2 : Int).toNat = 2 from rfl, Nat.reduceMul, Nat.reduceEqDiff, Go.Addr.add, ↓reduceIte] at hx287_0)
                                    have qi287 : (2 < t281.length) = True := eq_true (by omega)
                                    (try rw [show ((2 : Int)).toNat = 2 from rfl] at hx287_0)
                                    replace p287 := eq_true p287
                                    replace q287 := eq_true q287
                                    go_wp2_with (first | ((with_reducible refine gate_callee (f := 48) rfl ?_); refine goesL_ (some 72) rfl rfl Tryz.func48 (by kernel_rfl) rfl #[.string (rdOf ByteArray.empty t281 2)] rfl (by (try simp only [List.map_toArray, List.map_cons, List.map_nil]); first | done | rfl | (simp only [List.length_drop, List.length_take]; rfl)) ?_; (with_reducible refine (plaitref19_number.calls kj47 (rdOf ByteArray.empty t281 2) t288 true _ A58.out).mono ?_); rintro e w' ⟨rfl, ⟨nd, rfl⟩⟩; refine ⟨_, rfl, ?_⟩; have p290 : 0 ≤ (3 : Int) := (by omega); have q290 : 3 < (t281.length : Int) := of_decide_eq_true (by first | (with_reducible assumption) | assumption); obtain ⟨ad290, e290, hx290_0⟩ := Kd.at_string (Kd.R_reads' HO_14.out).2.2 3 p290 q290; obtain rfl : ad287 = ad290 := (by injection e290); (try simp only [show (3 : Int).toNat = 3 from rfl, Nat.reduceMul, Nat.reduceEqDiff, Go.Addr.add, ↓reduceIte] at hx290_0); have qi290 : (3 < t281.length) = True := eq_true (by omega); (try rw [show ((3 : Int)).toNat = 3 from rfl] at hx290_0); replace p290 := eq_true p290; replace q290 := eq_true q290) | ((with_reducible refine gate_callee (f := 48) rfl ?_); refine goesL_ (some 79) rfl rfl Tryz.func48 (by kernel_rfl) rfl #[.string (rdOf ByteArray.empty t281 3)] rfl (by (try simp only [List.map_toArray, List.map_cons, List.map_nil]); first | done | rfl | (simp only [List.length_drop, List.length_take]; rfl)) ?_; (with_reducible refine (plaitref19_number.calls kj47 (rdOf ByteArray.empty t281 3) t291 true _ A60.out).mono ?_); rintro e w' ⟨rfl, ⟨nd, rfl⟩⟩; refine ⟨_, rfl, ?_⟩))
                                    refine bodyPost_ret (results_list (rs := [.tmp 2, .tmp 3, .tmp 4, .tmp 5]) rfl (by simp) (.tmp (.tmp (.tmp (.tmp .nil))))) rfl ?_
                                    exact ⟨_, by first | rfl | (simp [errW_none, errW_some] <;> rfl) | (simp [*, errW_none, errW_some] <;> rfl), by first | exact Kd.S_nil _ _ _ _ _ | exact Kd.N_nil _ _ _ _ _ | exact Kd.V_nil _ _ _ _ _ | exact Kd.Q_nil _ _ _ _ _ | exact Kd.R_nil _ _ _ _ _, by repeat (first | (with_reducible first | exact HB.out | apply below_alloc | apply pw_below_drewN | apply below_drew1) | exact HB.out)⟩
                                · replace c62 := Bool.eq_false_iff.mpr c62
                                  subst c62
                                  have H1 : (some (([] : List (List Int)), 0, x13_1, 190)) = some (r1, r2, r3, r4) := by rw [if_neg (show ¬ (false = true) by decide)] at H; exact H
                                  clear H
                                  have H := H1
                                  clear H1
                                  simp only [Option.some.injEq, Prod.mk.injEq] at H
                                  obtain ⟨rfl, rfl, rfl, rfl⟩ := H
                                  obtain ⟨Ao66, co66, eo66⟩ := Kd.R_slice HO_14.out
                                  subst eo66
                                  have p287 : 0 ≤ (2 : Int) := (by omega)
                                  have q287 : 2 < (t281.length : Int) := of_decide_eq_true (by first | (with_reducible assumption) | assumption)
                                  obtain ⟨ad287, e287, hx287_0⟩ := Kd.at_string (Kd.R_reads' HO_14.out).2.2 2 p287 q287
                                  cases e287
                                  (try simp only [show (2 : Int).toNat = 2 from rfl, Nat.reduceMul, Nat.reduceEqDiff, Go.Addr.add, ↓reduceIte] at hx287_0)
                                  have qi287 : (2 < t281.length) = True := eq_true (by omega)
                                  (try rw [show ((2 : Int)).toNat = 2 from rfl] at hx287_0)
                                  replace p287 := eq_true p287
                                  replace q287 := eq_true q287
                                  go_wp2_with (first | ((with_reducible refine gate_callee (f := 48) rfl ?_); refine goesL_ (some 72) rfl rfl Tryz.func48 (by kernel_rfl) rfl #[.string (rdOf ByteArray.empty t281 2)] rfl (by (try simp only [List.map_toArray, List.map_cons, List.map_nil]); first | done | rfl | (simp only [List.length_drop, List.length_take]; rfl)) ?_; (with_reducible refine (plaitref19_number.calls kj47 (rdOf ByteArray.empty t281 2) t288 true _ A58.out).mono ?_); rintro e w' ⟨rfl, ⟨nd, rfl⟩⟩; refine ⟨_, rfl, ?_⟩; have p290 : 0 ≤ (3 : Int) := (by omega); have q290 : 3 < (t281.length : Int) := of_decide_eq_true (by first | (with_reducible assumption) | assumption); obtain ⟨ad290, e290, hx290_0⟩ := Kd.at_string (Kd.R_reads' HO_14.out).2.2 3 p290 q290; obtain rfl : ad287 = ad290 := (by injection e290); (try simp only [show (3 : Int).toNat = 3 from rfl, Nat.reduceMul, Nat.reduceEqDiff, Go.Addr.add, ↓reduceIte] at hx290_0); have qi290 : (3 < t281.length) = True := eq_true (by omega); (try rw [show ((3 : Int)).toNat = 3 from rfl] at hx290_0); replace p290 := eq_true p290; replace q290 := eq_true q290) | ((with_reducible refine gate_callee (f := 48) rfl ?_); refine goesL_ (some 79) rfl rfl Tryz.func48 (by kernel_rfl) rfl #[.string (rdOf ByteArray.empty t281 3)] rfl (by (try simp only [List.map_toArray, List.map_cons, List.map_nil]); first | done | rfl | (simp only [List.length_drop, List.length_take]; rfl)) ?_; (with_reducible refine (plaitref19_number.calls kj47 (rdOf ByteArray.empty t281 3) t291 false _ A60.out).mono ?_); rintro e w' ⟨rfl, ⟨nd, rfl⟩⟩; refine ⟨_, rfl, ?_⟩))
                                  refine bodyPost_ret (results_list (rs := [.tmp 2, .tmp 3, .tmp 4, .tmp 5]) rfl (by simp) (.tmp (.tmp (.tmp (.tmp .nil))))) rfl ?_
                                  exact ⟨_, by first | rfl | (simp [errW_none, errW_some] <;> rfl) | (simp [*, errW_none, errW_some] <;> rfl), by first | exact Kd.S_nil _ _ _ _ _ | exact Kd.N_nil _ _ _ _ _ | exact Kd.V_nil _ _ _ _ _ | exact Kd.Q_nil _ _ _ _ _ | exact Kd.R_nil _ _ _ _ _, by repeat (first | (with_reducible first | exact HB.out | apply below_alloc | apply pw_below_drewN | apply below_drew1) | exact HB.out)⟩
                              · replace c61 := Bool.eq_false_iff.mpr c61
                                subst c61
                                have H1 : (some (([] : List (List Int)), 0, x13_1, 190)) = some (r1, r2, r3, r4) := by rw [if_neg (show ¬ (false = true) by decide)] at H; exact H
                                clear H
                                have H := H1
                                clear H1
                                simp only [Option.some.injEq, Prod.mk.injEq] at H
                                obtain ⟨rfl, rfl, rfl, rfl⟩ := H
                                obtain ⟨Ao67, co67, eo67⟩ := Kd.R_slice HO_14.out
                                subst eo67
                                have p287 : 0 ≤ (2 : Int) := (by omega)
                                have q287 : 2 < (t281.length : Int) := of_decide_eq_true (by first | (with_reducible assumption) | assumption)
                                obtain ⟨ad287, e287, hx287_0⟩ := Kd.at_string (Kd.R_reads' HO_14.out).2.2 2 p287 q287
                                cases e287
                                (try simp only [show (2 : Int).toNat = 2 from rfl, Nat.reduceMul, Nat.reduceEqDiff, Go.Addr.add, ↓reduceIte] at hx287_0)
                                have qi287 : (2 < t281.length) = True := eq_true (by omega)
                                (try rw [show ((2 : Int)).toNat = 2 from rfl] at hx287_0)
                                replace p287 := eq_true p287
                                replace q287 := eq_true q287
                                go_wp2_with (first | ((with_reducible refine gate_callee (f := 48) rfl ?_); refine goesL_ (some 72) rfl rfl Tryz.func48 (by kernel_rfl) rfl #[.string (rdOf ByteArray.empty t281 2)] rfl (by (try simp only [List.map_toArray, List.map_cons, List.map_nil]); first | done | rfl | (simp only [List.length_drop, List.length_take]; rfl)) ?_; (with_reducible refine (plaitref19_number.calls kj47 (rdOf ByteArray.empty t281 2) t288 false _ A58.out).mono ?_); rintro e w' ⟨rfl, ⟨nd, rfl⟩⟩; refine ⟨_, rfl, ?_⟩; have p290 : 0 ≤ (3 : Int) := (by omega); have q290 : 3 < (t281.length : Int) := of_decide_eq_true (by first | (with_reducible assumption) | assumption); obtain ⟨ad290, e290, hx290_0⟩ := Kd.at_string (Kd.R_reads' HO_14.out).2.2 3 p290 q290; obtain rfl : ad287 = ad290 := (by injection e290); (try simp only [show (3 : Int).toNat = 3 from rfl, Nat.reduceMul, Nat.reduceEqDiff, Go.Addr.add, ↓reduceIte] at hx290_0); have qi290 : (3 < t281.length) = True := eq_true (by omega); (try rw [show ((3 : Int)).toNat = 3 from rfl] at hx290_0); replace p290 := eq_true p290; replace q290 := eq_true q290) | ((with_reducible refine gate_callee (f := 48) rfl ?_); refine goesL_ (some 79) rfl rfl Tryz.func48 (by kernel_rfl) rfl #[.string (rdOf ByteArray.empty t281 3)] rfl (by (try simp only [List.map_toArray, List.map_cons, List.map_nil]); first | done | rfl | (simp only [List.length_drop, List.length_take]; rfl)) ?_; (with_reducible refine (plaitref19_number.calls kj47 (rdOf ByteArray.empty t281 3) t291 t292 _ A60.out).mono ?_); rintro e w' ⟨rfl, ⟨nd, rfl⟩⟩; refine ⟨_, rfl, ?_⟩))
                                refine bodyPost_ret (results_list (rs := [.tmp 2, .tmp 3, .tmp 4, .tmp 5]) rfl (by simp) (.tmp (.tmp (.tmp (.tmp .nil))))) rfl ?_
                                exact ⟨_, by first | rfl | (simp [errW_none, errW_some] <;> rfl) | (simp [*, errW_none, errW_some] <;> rfl), by first | exact Kd.S_nil _ _ _ _ _ | exact Kd.N_nil _ _ _ _ _ | exact Kd.V_nil _ _ _ _ _ | exact Kd.Q_nil _ _ _ _ _ | exact Kd.R_nil _ _ _ _ _, by repeat (first | (with_reducible first | exact HB.out | apply below_alloc | apply pw_below_drewN | apply below_drew1) | exact HB.out)⟩
                            · rw [if_neg c59] at H
                              exact absurd H (by simp)
                          · rw [if_neg c57] at H
                            exact absurd H (by simp)
                        · replace c56 := Bool.eq_false_iff.mpr c56
                          subst c56
                          have H1 : (some (([] : List (List Int)), 0, x13_1, 190)) = some (r1, r2, r3, r4) := by rw [if_neg (show ¬ (false = true) by decide)] at H; exact H
                          clear H
                          have H := H1
                          clear H1
                          simp only [Option.some.injEq, Prod.mk.injEq] at H
                          obtain ⟨rfl, rfl, rfl, rfl⟩ := H
                          go_wp2
                          refine bodyPost_ret (results_list (rs := [.tmp 2, .tmp 3, .tmp 4, .tmp 5]) rfl (by simp) (.tmp (.tmp (.tmp (.tmp .nil))))) rfl ?_
                          exact ⟨_, by first | rfl | (simp [errW_none, errW_some] <;> rfl) | (simp [*, errW_none, errW_some] <;> rfl), by first | exact Kd.S_nil _ _ _ _ _ | exact Kd.N_nil _ _ _ _ _ | exact Kd.V_nil _ _ _ _ _ | exact Kd.Q_nil _ _ _ _ _ | exact Kd.R_nil _ _ _ _ _, by repeat (first | (with_reducible first | exact HB.out | apply below_alloc | apply pw_below_drewN | apply below_drew1) | exact HB.out)⟩
          · rw [if_neg c6] at H
            exact absurd H (by simp)
        · rw [if_neg c5] at H
          have c5b0 : decide (x13_1 < (t277.length : Int)) = false := decide_eq_false c5
          clear c5
          by_cases c68 : x7_1 = true
          · subst c68
            have H1 : (if x12_1 = true then (some (([] : List (List Int)), 0, wrap64 ((t277.length : Int) - 1), 190)) else (if (x10_1.length : Int) < x9_1 then (some (([] : List (List Int)), 0, wrap64 ((t277.length : Int) - 1), 190)) else (some (x10_1, x8_1, 0, 0)))) = some (r1, r2, r3, r4) := by rw [if_pos rfl] at H; exact H
            clear H
            have H := H1
            clear H1
            by_cases c69 : x12_1 = true
            · subst c69
              have H1 : (some (([] : List (List Int)), 0, wrap64 ((t277.length : Int) - 1), 190)) = some (r1, r2, r3, r4) := by rw [if_pos rfl] at H; exact H
              clear H
              have H := H1
              clear H1
              simp only [Option.some.injEq, Prod.mk.injEq] at H
              obtain ⟨rfl, rfl, rfl, rfl⟩ := H
              obtain ⟨Ao70, co70, eo70⟩ := Kd.R_slice HO_6.out
              subst eo70
              go_wp2
              refine bodyPost_ret (results_list (rs := [.tmp 2, .tmp 3, .tmp 4, .tmp 5]) rfl (by simp) (.tmp (.tmp (.tmp (.tmp .nil))))) rfl ?_
              exact ⟨_, by first | rfl | (simp [errW_none, errW_some] <;> rfl) | (simp [*, errW_none, errW_some] <;> rfl), by first | exact Kd.S_nil _ _ _ _ _ | exact Kd.N_nil _ _ _ _ _ | exact Kd.V_nil _ _ _ _ _ | exact Kd.Q_nil _ _ _ _ _ | exact Kd.R_nil _ _ _ _ _, by repeat (first | (with_reducible first | exact HB.out | apply below_alloc | apply pw_below_drewN | apply below_drew1) | exact HB.out)⟩
            · replace c69 := Bool.eq_false_iff.mpr c69
              subst c69
              have H1 : (if (x10_1.length : Int) < x9_1 then (some (([] : List (List Int)), 0, wrap64 ((t277.length : Int) - 1), 190)) else (some (x10_1, x8_1, 0, 0))) = some (r1, r2, r3, r4) := by rw [if_neg (show ¬ (false = true) by decide)] at H; exact H
              clear H
              have H := H1
              clear H1
              by_cases c71 : (x10_1.length : Int) < x9_1
              · rw [if_pos c71] at H
                have c71b0 : decide ((x10_1.length : Int) < x9_1) = true := decide_eq_true c71
                clear c71
                simp only [Option.some.injEq, Prod.mk.injEq] at H
                obtain ⟨rfl, rfl, rfl, rfl⟩ := H
                obtain ⟨Ao72, co72, eo72⟩ := Kd.R_slice HO_6.out
                subst eo72
                obtain ⟨Ao73, co73, eo73⟩ := Kd.S_slice HO_10.out
                subst eo73
                go_wp2
                refine bodyPost_ret (results_list (rs := [.tmp 2, .tmp 3, .tmp 4, .tmp 5]) rfl (by simp) (.tmp (.tmp (.tmp (.tmp .nil))))) rfl ?_
                exact ⟨_, by first | rfl | (simp [errW_none, errW_some] <;> rfl) | (simp [*, errW_none, errW_some] <;> rfl), by first | exact Kd.S_nil _ _ _ _ _ | exact Kd.N_nil _ _ _ _ _ | exact Kd.V_nil _ _ _ _ _ | exact Kd.Q_nil _ _ _ _ _ | exact Kd.R_nil _ _ _ _ _, by repeat (first | (with_reducible first | exact HB.out | apply below_alloc | apply pw_below_drewN | apply below_drew1) | exact HB.out)⟩
              · rw [if_neg c71] at H
                have c71b0 : decide ((x10_1.length : Int) < x9_1) = false := decide_eq_false c71
                clear c71
                simp only [Option.some.injEq, Prod.mk.injEq] at H
                obtain ⟨rfl, rfl, rfl, rfl⟩ := H
                obtain ⟨Ao74, co74, eo74⟩ := Kd.R_slice HO_6.out
                subst eo74
                obtain ⟨Ao75, co75, eo75⟩ := Kd.S_slice HO_10.out
                subst eo75
                go_wp2
                refine bodyPost_ret (results_list (rs := [.tmp 2, .tmp 3, .tmp 4, .tmp 5]) rfl (by simp) (.tmp (.tmp (.tmp (.tmp .nil))))) rfl ?_
                exact ⟨_, by first | rfl | (simp [errW_none, errW_some] <;> rfl) | (simp [*, errW_none, errW_some] <;> rfl), by (with_reducible repeat (first | apply Kd.S_alloc | apply Kd.S_drewN | apply Kd.S_drew)); exact Kd.S_mono HO_10.out (fun _ hk => trivial), by repeat (first | (with_reducible first | exact HB.out | apply below_alloc | apply pw_below_drewN | apply below_drew1) | exact HB.out)⟩
          · replace c68 := Bool.eq_false_iff.mpr c68
            subst c68
            have H1 : (some (([] : List (List Int)), 0, wrap64 ((t277.length : Int) - 1), 190)) = some (r1, r2, r3, r4) := by rw [if_neg (show ¬ (false = true) by decide)] at H; exact H
            clear H
            have H := H1
            clear H1
            simp only [Option.some.injEq, Prod.mk.injEq] at H
            obtain ⟨rfl, rfl, rfl, rfl⟩ := H
            obtain ⟨Ao76, co76, eo76⟩ := Kd.R_slice HO_6.out
            subst eo76
            go_wp2
            refine bodyPost_ret (results_list (rs := [.tmp 2, .tmp 3, .tmp 4, .tmp 5]) rfl (by simp) (.tmp (.tmp (.tmp (.tmp .nil))))) rfl ?_
            exact ⟨_, by first | rfl | (simp [errW_none, errW_some] <;> rfl) | (simp [*, errW_none, errW_some] <;> rfl), by first | exact Kd.S_nil _ _ _ _ _ | exact Kd.N_nil _ _ _ _ _ | exact Kd.V_nil _ _ _ _ _ | exact Kd.Q_nil _ _ _ _ _ | exact Kd.R_nil _ _ _ _ _, by repeat (first | (with_reducible first | exact HB.out | apply below_alloc | apply pw_below_drewN | apply below_drew1) | exact HB.out)⟩
end Go.Proofs.YthhnhbpmpdminaaGreatDoor.PDimacsParse
