import Derived.Test.YthhnhbpmpdminaaGreatDoorProg
import Derived.Below
import Derived.Deep.Draws
import Derived.Deep.AppendLies
import Derived.Maps.AppendAt
import Derived.OwnWalk
import Derived.Laws.BytesArg
import Derived.Laws.MakeOwn
import Derived.Laws.OwnMore
import Derived.Deep.OwnRows
import Derived.Tactics
import Derived.Lib.ConvBytes
import Derived.Laws.Slices
import Derived.WalkKit
import Derived.KernelRfl
import Derived.RowKit3
import Derived.Deep.LoopGhost
import Derived.Deep.QuietTactic
import Derived.BigQuiet
import Derived.WideLaws
import Derived.Deep.DeepCutAuto
import Derived.Deep.CutBlock
import Derived.Deep.RegionHeld3
import Derived.Laws.Rows
import Derived.Lib.AppendStr
import Derived.ArgAppend
import Derived.Laws.IdiomCopy
import Derived.OrdersHeld
import Derived.Laws.BitsLemmas
import Derived.RowKit
import Derived.Test.YthhnhbpmpdminaaGreatDoorWWords
import Derived.Test.YthhnhbpmpdminaaGreatDoorWLast
import Derived.Test.YthhnhbpmpdminaaGreatDoorWTab
import Derived.Test.YthhnhbpmpdminaaGreatDoorWMore
/-
Printed contracts (the kit's print), those that this claim uses.
-/
namespace Go.Proofs.YthhnhbpmpdminaaGreatDoor.PDimacsPrint
open Go.RowKit Go.Proofs.YthhnhbpmpdminaaGreatDoorW.PrintWords Go.Proofs.YthhnhbpmpdminaaGreatDoorW.PrintLast Go.Proofs.YthhnhbpmpdminaaGreatDoorW.PrintMore
attribute [local go_sem] max2_int min2_int max_two min_two max_three min_three max_four min_four   -- for this text's walks alone
set_option linter.unusedVariables false
set_option linter.unusedSimpArgs false



def errW : Option Int → Value
  | none => .nilIface
  | some c => .iface 0 (.int .i64 c)
theorem errW_none : errW none = .nilIface := rfl
theorem errW_some (c : Int) : errW (some c) = .iface 0 (.int .i64 c) := rfl

-- the values' own types
def rd_L1 (xs : List (List Int)) (i : Int) : (List Int) := xs.getD i.toNat ([] : List Int)
theorem at_L1 {w : World} {A : Option Addr} {n : Nat} {xs : List (List Int)} (h : Kd.C (Kd.slice 3 (Kd.int .i64)) w A n xs) (i : Int) (h0 : 0 ≤ i) (h1 : i < n) : ∃ ad A0 c0, A = some ad ∧ w.cell? (ad.add i.toNat) = some (.slice A0 (rd_L1 xs i).length c0) ∧ (rd_L1 xs i).length ≤ c0 ∧ (Kd.int .i64).C w A0 (rd_L1 xs i).length (rd_L1 xs i) := by
  obtain ⟨ad, c, e, _, hK, hc0⟩ := Kd.C_get h ([] : List Int) i h0 h1
  have hc : ∀ j u, c[j]? = some u → w.cell? (ad.add (i.toNat * 1 + j)) = some u := hc0
  obtain ⟨A0, c0, rfl, l0, g0⟩ := hK
  exact ⟨ad, A0, c0, e, by have hq := hc 0 _ rfl; rwa [Nat.mul_one, Nat.add_zero] at hq, l0, g0⟩

def rd_L5 (xs : List (List Int)) (i : Int) : (List Int) := xs.getD i.toNat ([] : List Int)
theorem at_L5 {w : World} {A : Option Addr} {n : Nat} {xs : List (List Int)} (h : Kd.C (Kd.slice 213 (Kd.int .u32)) w A n xs) (i : Int) (h0 : 0 ≤ i) (h1 : i < n) : ∃ ad A0 c0, A = some ad ∧ w.cell? (ad.add i.toNat) = some (.slice A0 (rd_L5 xs i).length c0) ∧ (rd_L5 xs i).length ≤ c0 ∧ (Kd.int .u32).C w A0 (rd_L5 xs i).length (rd_L5 xs i) := by
  obtain ⟨ad, c, e, _, hK, hc0⟩ := Kd.C_get h ([] : List Int) i h0 h1
  have hc : ∀ j u, c[j]? = some u → w.cell? (ad.add (i.toNat * 1 + j)) = some u := hc0
  obtain ⟨A0, c0, rfl, l0, g0⟩ := hK
  exact ⟨ad, A0, c0, e, by have hq := hc 0 _ rfl; rwa [Nat.mul_one, Nat.add_zero] at hq, l0, g0⟩

/-! #### struct type 263 -/
structure S263 where
  f0 : (List Int)
  f1 : Int
def z263 : S263 := ⟨([] : List Int), (0 : Int)⟩
def k263 : Kd S263 := Kd.iso (Kd.pair (Kd.slice 213 (Kd.int .u32)) (Kd.int .i64)) (fun x : S263 => (x.f0, x.f1))
theorem k263_open {w : World} {x : S263} {cs : List Value} (h : k263.K w x cs) : ∃ A0 c0, cs = [.slice A0 x.f0.length c0, .int .i64 x.f1] ∧ x.f0.length ≤ c0 ∧ (Kd.int .u32).C w A0 x.f0.length x.f0 := by
  obtain ⟨_, _, rfl, ⟨A0, c0, rfl, l0, g0⟩, rfl⟩ := h
  exact ⟨A0, c0, rfl, l0, g0⟩
theorem k263_openM {w : World} {base : Nat} {ok : Nat → Prop} {x : S263} {cs : List Value} (h : k263.M w base ok x cs) : ∃ v0, cs = [v0, .int .i64 x.f1] ∧ (Kd.int .u32).R 213 w base ok v0 x.f0 := by
  obtain ⟨_, _, rfl, ⟨v0, rfl, g0⟩, rfl⟩ := h
  exact ⟨v0, rfl, g0⟩
theorem k263_mk (w : World) (x : S263) {A0 : Option Addr} {c0 : Nat} (l0 : x.f0.length ≤ c0) (g0 : (Kd.int .u32).C w A0 x.f0.length x.f0) : k263.K w x [.slice A0 x.f0.length c0, .int .i64 x.f1] := ⟨[.slice A0 x.f0.length c0], [.int .i64 x.f1], rfl, ⟨A0, c0, rfl, l0, g0⟩, rfl⟩
theorem k263_mkM (w : World) (base : Nat) (ok : Nat → Prop) (x : S263) {v0 : Value} (g0 : (Kd.int .u32).R 213 w base ok v0 x.f0) : k263.M w base ok x [v0, .int .i64 x.f1] := ⟨[v0], [.int .i64 x.f1], rfl, ⟨v0, rfl, g0⟩, rfl⟩
theorem k263_openF {W : World} {ok : Nat → Prop} {x : S263} {cs : List Value} (h : Kd.FK k263 W ok x cs) : ∃ A0 c0, cs = [.slice A0 x.f0.length c0, .int .i64 x.f1] ∧ x.f0.length ≤ c0 ∧ Kd.F (Kd.int .u32) W ok A0 x.f0.length x.f0 := by
  obtain ⟨A0, c0, rfl, l0, _⟩ := k263_open (Kd.FK_now h)
  exact ⟨A0, c0, rfl, l0, (fun W' hW => by obtain ⟨A0_, c0_, he, l0_, g0_⟩ := k263_open (h W' hW); injection (Option.some.inj (show some (Value.slice A0 x.f0.length c0) = some (Value.slice A0_ x.f0.length c0_) from congrArg (fun l => l[0]?) he)) with ha_ _ _; rw [ha_]; exact g0_)⟩
theorem k263_mkF (W : World) (ok : Nat → Prop) (x : S263) {A0 : Option Addr} {c0 : Nat} (l0 : x.f0.length ≤ c0) (g0 : Kd.F (Kd.int .u32) W ok A0 x.f0.length x.f0) : Kd.FK k263 W ok x [.slice A0 x.f0.length c0, .int .i64 x.f1] := fun W2 hW => k263_mk W2 x l0 (g0 W2 hW)
def rd_T263 (xs : List S263) (i : Int) : S263 := xs.getD i.toNat z263
theorem at_T263 {w : World} {A : Option Addr} {n : Nat} {xs : List S263} (h : Kd.C k263 w A n xs) (i : Int) (h0 : 0 ≤ i) (h1 : i < n) : ∃ ad A0 c0, A = some ad ∧ w.cell? (ad.add (i.toNat * 2)) = some (.slice A0 (rd_T263 xs i).f0.length c0) ∧ w.cell? ⟨(ad.add (i.toNat * 2)).block, (ad.add (i.toNat * 2)).off + 1, none⟩ = some (.int .i64 (rd_T263 xs i).f1) ∧ (rd_T263 xs i).f0.length ≤ c0 ∧ (Kd.int .u32).C w A0 (rd_T263 xs i).f0.length (rd_T263 xs i).f0 := by
  obtain ⟨ad, c, e, _, hK, hc0⟩ := Kd.C_get h z263 i h0 h1
  have hc : ∀ j u, c[j]? = some u → w.cell? (ad.add (i.toNat * 2 + j)) = some u := hc0
  obtain ⟨A0, c0, rfl, l0, g0⟩ := k263_open hK
  exact ⟨ad, A0, c0, e, hc 0 _ rfl, by rw [← add_field _ _ 1 (by omega)]; exact hc 1 _ rfl, l0, g0⟩
/-! ### plaithelp_Size: function 17 -/
def plaithelp_Size.l0 : Nat → List (List Int) → Int → Int → Int → Option (Int)
  | 0, _, _, _, _ => none
  | k + 1, x0, x1, x5, x6 => if x6 < (x0.length : Int) then (if x5 ≤ x1 then (if 0 ≤ x6 then (plaithelp_Size.l0 k x0 x1 (wrap64 (x5 + ((rd_L1 x0 x6).length : Int))) (wrap64 (x6 + 1))) else (none)) else (some x5)) else (some x5)
def plaithelp_Size.f (k : Nat) (l0 : List (List Int)) (a1 : Int) : Option (Int) := plaithelp_Size.l0 k l0 a1 (l0.length : Int) 0
theorem plaithelp_Size.mono_l : ∀ k, (∀ y0 y1 y2 y3, LeO (plaithelp_Size.l0 k y0 y1 y2 y3) (plaithelp_Size.l0 (k + 1) y0 y1 y2 y3))
  | 0 => fun _ _ _ _ r h => by simp [plaithelp_Size.l0] at h
  | k + 1 => by
    have ih0 := plaithelp_Size.mono_l k
    · intro y0 y1 y2 y3
      unfold plaithelp_Size.l0
      repeat' first
      | (with_reducible exact ih0 _ _ _ _)
      | (with_reducible exact LeO.refl _)
      | (with_reducible exact LeO.none _)
      | (with_reducible refine LeO.ite ?_ ?_)
      | (with_reducible refine LeO.bind ?_ (fun _ => ?_))
      | exact ih0 _ _ _ _
      | exact LeO.none _
      | refine LeO.ite ?_ ?_
      | refine LeO.bind ?_ (fun _ => ?_)
theorem plaithelp_Size.mono : ∀ a0 a1 k, LeO (plaithelp_Size.f k a0 a1) (plaithelp_Size.f (k + 1) a0 a1) := by
  intro a0 a1 k
  have ih0 := plaithelp_Size.mono_l k
  unfold plaithelp_Size.f
  repeat' first
      | (with_reducible exact ih0 _ _ _ _)
      | (with_reducible exact LeO.refl _)
      | (with_reducible exact LeO.none _)
      | (with_reducible refine LeO.ite ?_ ?_)
      | (with_reducible refine LeO.bind ?_ (fun _ => ?_))
      | exact ih0 _ _ _ _
      | exact LeO.none _
      | refine LeO.ite ?_ ?_
      | refine LeO.bind ?_ (fun _ => ?_)
set_option maxHeartbeats 8000000 in
set_option maxRecDepth 100000 in
theorem plaithelp_Size.calls (k : Nat) (A0 : Option Addr) (c0 : Nat) (l0 : List (List Int)) (a1 : Int) (r : Int) (w : World) (hr0 : Kd.C (Kd.slice 3 (Kd.int .i64)) w A0 l0.length l0) (hc0 : l0.length ≤ c0) (h : plaithelp_Size.f k l0 a1 = some r) :
    Calls Tryz.prog 17 #[.slice A0 l0.length c0, .int .i64 a1] w fun e w' => e = .returned (.int .i64 r) ∧ Drawn0 w w' := by
  have HR0 := Aside0.mk hr0
  have HC0 := Aside0.mk hc0
  clear hr0 hc0
  have H : (plaithelp_Size.l0 k l0 a1 (l0.length : Int) 0) = some r := h
  clear h
  have H' := Aside0.mk H
  clear H
  go_enter Tryz.func17, Tryz.ntmps17
  go_wp2
  go_loopg [5, 6] k (fun kq v5 v6 w' => ∃ (x5_1 : Int) (x6_1 : Int), v5 = .int .i64 x5_1 ∧ v6 = .int .i64 x6_1 ∧ Aside0 (plaithelp_Size.l0 kq l0 a1 x5_1 x6_1 = some r) ∧ Aside0 (kq ≤ k) ∧ Drawn0 w w')
  case atStart => exact ⟨((l0.length : Int)), (0), (by first | rfl | (simp; done) | (simp [*]; done)), (by first | rfl | (simp; done) | (simp [*]; done)), H', ⟨Nat.le_refl _⟩, by repeat (first | exact Drawn0.refl _ | apply Drawn0.step)⟩
  case round =>
    clear H'
    try clear c1
    try clear p2
    obtain ⟨x5_1, x6_1, rfl, rfl, HA, HK1, ⟨m1, rfl⟩⟩ := hrel
    cases gk with
    | zero => exact absurd HA.out (by simp [plaithelp_Size.l0])
    | succ k1 =>
      have H := HA.out
      clear HA
      simp only [plaithelp_Size.l0] at H
      by_cases c3 : x6_1 < (l0.length : Int)
      · rw [if_pos c3] at H
        have c3b0 : decide (x6_1 < (l0.length : Int)) = true := decide_eq_true c3
        clear c3
        by_cases c4 : x5_1 ≤ a1
        · rw [if_pos c4] at H
          have c4b0 : decide (x5_1 ≤ a1) = true := decide_eq_true c4
          clear c4
          by_cases c5 : 0 ≤ x6_1
          · rw [if_pos c5] at H
            have c5b0 : decide (0 ≤ x6_1) = true := decide_eq_true c5
            clear c5
            have H' := Aside0.mk H
            clear H
            have p268 : 0 ≤ (x6_1 : Int) := of_decide_eq_true (by first | (with_reducible assumption) | assumption)
            have q268 : x6_1 < (l0.length : Int) := of_decide_eq_true (by first | (with_reducible assumption) | assumption)
            obtain ⟨ad268, A268_0, c268_0, e268, hx268_0, hl268_0, hi268_0⟩ := at_L1 HR0.out x6_1 p268 q268
            cases e268
            have HR268_0 := Aside0.mk hi268_0
            have HC268_0 := Aside0.mk hl268_0
            clear hi268_0 hl268_0
            replace p268 := eq_true p268
            replace q268 := eq_true q268
            go_wp2
            go_roundg k1
            case measure => have := HK1.out; omega
            case rel => exact ⟨(wrap64 (x5_1 + ((rd_L1 l0 x6_1).length : Int))), (wrap64 (x6_1 + 1)), (by first | rfl | (simp; done) | (simp [*]; done)), (by first | rfl | (simp; done) | (simp [*]; done)), H', ⟨by have := HK1.out; omega⟩, by repeat (first | exact Drawn0.refl _ | apply Drawn0.step)⟩
          · rw [if_neg c5] at H
            exact absurd H (by simp)
        · rw [if_neg c4] at H
          have c4b0 : decide (x5_1 ≤ a1) = false := decide_eq_false c4
          clear c4
          obtain rfl := Option.some.inj H
          go_wp2
          go_ret
          exact ⟨by first | rfl | (simp; done) | (simp [*]; done), by repeat (first | exact Drawn0.refl _ | apply Drawn0.step)⟩
      · rw [if_neg c3] at H
        have c3b0 : decide (x6_1 < (l0.length : Int)) = false := decide_eq_false c3
        clear c3
        obtain rfl := Option.some.inj H
        go_wp2
        go_ret
        exact ⟨by first | rfl | (simp; done) | (simp [*]; done), by repeat (first | exact Drawn0.refl _ | apply Drawn0.step)⟩

-- NOT PRINTED: function 51 (plaithelp_CopyInts)

-- NOT PRINTED: function 18 (plaithelp_CopyLists)
/-! ### plaitref19_dec: function 56 -/
def plaitref19_dec.f : Nat → Int → Option (ByteArray)
  | 0, _ => none
  | k + 1, a0 => if a0 < 0 then ((plaitref19_dec.f k (wrap64 (-a0))).bind fun t270 => (if 1 + t270.size ≤ 9223372036854775807 then (some ((⟨#[45]⟩ : ByteArray) ++ t270)) else (none))) else (if a0 < 10 then (if 0 ≤ a0 then (if a0 ≤ (wrap64 (a0 + 1)) then (if (wrap64 (a0 + 1)) ≤ 10 then (some ((⟨#[48, 49, 50, 51, 52, 53, 54, 55, 56, 57]⟩ : ByteArray).extract (a0 : Int).toNat ((wrap64 (a0 + 1)) : Int).toNat)) else (none)) else (none)) else (none)) else ((plaitref19_dec.f k (wrap64 (Int.tdiv a0 10))).bind fun t271 => (if 0 ≤ (Int.tmod a0 10) then (if (Int.tmod a0 10) ≤ (wrap64 ((Int.tmod a0 10) + 1)) then (if (wrap64 ((Int.tmod a0 10) + 1)) ≤ 10 then (if t271.size + ((⟨#[48, 49, 50, 51, 52, 53, 54, 55, 56, 57]⟩ : ByteArray).extract ((Int.tmod a0 10) : Int).toNat ((wrap64 ((Int.tmod a0 10) + 1)) : Int).toNat).size ≤ 9223372036854775807 then (some (t271 ++ ((⟨#[48, 49, 50, 51, 52, 53, 54, 55, 56, 57]⟩ : ByteArray).extract ((Int.tmod a0 10) : Int).toNat ((wrap64 ((Int.tmod a0 10) + 1)) : Int).toNat))) else (none)) else (none)) else (none)) else (none))))
theorem plaitref19_dec.mono_l : ∀ k, (∀ y0, LeO (plaitref19_dec.f k y0) (plaitref19_dec.f (k + 1) y0))
  | 0 => fun _ r h => by simp [plaitref19_dec.f] at h
  | k + 1 => by
    have ih0 := plaitref19_dec.mono_l k
    · intro y0
      unfold plaitref19_dec.f
      repeat' first
      | (with_reducible exact ih0 _)
      | (with_reducible exact LeO.refl _)
      | (with_reducible exact LeO.none _)
      | (with_reducible refine LeO.ite ?_ ?_)
      | (with_reducible refine LeO.bind ?_ (fun _ => ?_))
      | exact ih0 _
      | exact LeO.none _
      | refine LeO.ite ?_ ?_
      | refine LeO.bind ?_ (fun _ => ?_)
theorem plaitref19_dec.mono : ∀ a0 k, LeO (plaitref19_dec.f k a0) (plaitref19_dec.f (k + 1) a0) := by
  intro a0 k
  have ih0 := plaitref19_dec.mono_l k
  exact ih0 a0
def plaitref19_dec.T5 : Bool × List (List Nat × List Nat) := (true, [([], []), ([0], [0]), ([1], [1]), ([], []), ([3], [3]), ([], []), ([5], [5]), ([6], [6]), ([4, 7], [4, 7]), ([2, 8], [2, 8]), ([9, 2, 0, 1, 2, 3, 4, 5, 6, 7, 8, 9], [9])])
def plaitref19_dec.B5 : List Nat := [0, 1, 3, 0, 8, 0, 32, 96, 248, 511, 1023]
theorem plaitref19_dec.tab5 : rtab .any (opsOf Tryz.f56 5) = plaitref19_dec.T5 := by kernel_rfl
theorem plaitref19_dec.bits5 : waitsOk plaitref19_dec.T5.2 plaitref19_dec.B5 = true := by kernel_rfl
set_option maxHeartbeats 8000000 in
set_option maxRecDepth 100000 in
theorem plaitref19_dec.calls (k : Nat) : ∀ (a0 : Int) (r : ByteArray) (w : World) (h : plaitref19_dec.f k a0 = some r),
    Calls Tryz.prog 56 #[.int .i64 a0] w fun e w' => e = .returned (.string r) ∧ Below w.heap.size w w' := by
  induction k using Nat.strongRecOn with
  | _ k ih =>
  intro a0 r w h
  cases k with
  | zero => exact absurd h (by simp [plaitref19_dec.f])
  | succ k =>
  simp only [plaitref19_dec.f] at h
  have HB := Aside0.mk (Below.refl w.heap.size w)
  have H : (if a0 < 0 then ((plaitref19_dec.f k (wrap64 (-a0))).bind fun t270 => (if 1 + t270.size ≤ 9223372036854775807 then (some ((⟨#[45]⟩ : ByteArray) ++ t270)) else (none))) else (if a0 < 10 then (if 0 ≤ a0 then (if a0 ≤ (wrap64 (a0 + 1)) then (if (wrap64 (a0 + 1)) ≤ 10 then (some ((⟨#[48, 49, 50, 51, 52, 53, 54, 55, 56, 57]⟩ : ByteArray).extract (a0 : Int).toNat ((wrap64 (a0 + 1)) : Int).toNat)) else (none)) else (none)) else (none)) else ((plaitref19_dec.f k (wrap64 (Int.tdiv a0 10))).bind fun t271 => (if 0 ≤ (Int.tmod a0 10) then (if (Int.tmod a0 10) ≤ (wrap64 ((Int.tmod a0 10) + 1)) then (if (wrap64 ((Int.tmod a0 10) + 1)) ≤ 10 then (if t271.size + ((⟨#[48, 49, 50, 51, 52, 53, 54, 55, 56, 57]⟩ : ByteArray).extract ((Int.tmod a0 10) : Int).toNat ((wrap64 ((Int.tmod a0 10) + 1)) : Int).toNat).size ≤ 9223372036854775807 then (some (t271 ++ ((⟨#[48, 49, 50, 51, 52, 53, 54, 55, 56, 57]⟩ : ByteArray).extract ((Int.tmod a0 10) : Int).toNat ((wrap64 ((Int.tmod a0 10) + 1)) : Int).toNat))) else (none)) else (none)) else (none)) else (none))))) = some r := h
  clear h
  by_cases c2 : a0 < 0
  · rw [if_pos c2] at H
    have c2b0 : decide (a0 < 0) = true := decide_eq_true c2
    clear c2
    replace H := Option.bind_eq_some_iff.mp H
    obtain ⟨t270, A30, H⟩ := H
    replace H : (if 1 + t270.size ≤ 9223372036854775807 then (some ((⟨#[45]⟩ : ByteArray) ++ t270)) else (none)) = some r := H
    have A3 := Aside0.mk A30
    clear A30
    by_cases c4 : 1 + t270.size ≤ 9223372036854775807
    · rw [if_pos c4] at H
      have c4b0 := eq_true c4
      have c4b1 : decide (1 + t270.size ≤ 9223372036854775807) = true := decide_eq_true c4
      try have c4b2 : (9223372036854775807 < 1 + t270.size) = False := eq_false (Nat.not_lt.2 c4)
      obtain rfl := Option.some.inj H
      go_enter Tryz.func56, Tryz.ntmps56
      go_wp2_with (first | ((with_reducible refine gate_callee (f := 56) rfl ?_); refine goesL_ (some 7) rfl rfl Tryz.func56 (by kernel_rfl) rfl #[.int .i64 (wrap64 (-a0))] rfl (by (try simp only [List.map_toArray, List.map_cons, List.map_nil]); first | done | rfl | (simp only [List.length_drop, List.length_take]; rfl)) ?_; (with_reducible refine (ih k (by omega) (wrap64 (-a0)) t270 _ A3.out).mono ?_); rintro e w5 ⟨rfl, hb⟩; refine ⟨_, rfl, ?_⟩; have n0_ := Aside0.mk (below_step (by repeat (first | (with_reducible first | exact HB.out | apply below_alloc | apply pw_below_drewN | apply below_drew1) | exact HB.out)) hb); clear HB; have HB := n0_; clear n0_; (try clear hb); (try clear hb2); (try clear hk); (try clear hi)))
      go_ret
      exact ⟨by first | rfl | (simp [errW_none, errW_some] <;> rfl) | (simp [*, errW_none, errW_some] <;> rfl), by repeat (first | (with_reducible first | exact HB.out | apply below_alloc | apply pw_below_drewN | apply below_drew1) | exact HB.out)⟩
    · rw [if_neg c4] at H
      exact absurd H (by simp)
  · rw [if_neg c2] at H
    have c2b0 : decide (a0 < 0) = false := decide_eq_false c2
    clear c2
    by_cases c6 : a0 < 10
    · rw [if_pos c6] at H
      have c6b0 : decide (a0 < 10) = true := decide_eq_true c6
      clear c6
      by_cases c7 : 0 ≤ a0
      · rw [if_pos c7] at H
        have c7b0 := eq_true c7
        have c7b1 : decide (0 ≤ a0) = true := decide_eq_true c7
        clear c7
        by_cases c8 : a0 ≤ (wrap64 (a0 + 1))
        · rw [if_pos c8] at H
          have c8b0 := eq_true c8
          have c8b1 : decide (a0 ≤ (wrap64 (a0 + 1))) = true := decide_eq_true c8
          by_cases c9 : (wrap64 (a0 + 1)) ≤ 10
          · rw [if_pos c9] at H
            have c9b0 := eq_true c9
            have c9b1 : decide ((wrap64 (a0 + 1)) ≤ 10) = true := decide_eq_true c9
            obtain rfl := Option.some.inj H
            go_enter Tryz.func56, Tryz.ntmps56
            go_wp2
            go_ret
            exact ⟨by first | rfl | (simp [errW_none, errW_some] <;> rfl) | (simp [*, errW_none, errW_some] <;> rfl), by repeat (first | (with_reducible first | exact HB.out | apply below_alloc | apply pw_below_drewN | apply below_drew1) | exact HB.out)⟩
          · rw [if_neg c9] at H
            exact absurd H (by simp)
        · rw [if_neg c8] at H
          exact absurd H (by simp)
      · rw [if_neg c7] at H
        exact absurd H (by simp)
    · rw [if_neg c6] at H
      have c6b0 : decide (a0 < 10) = false := decide_eq_false c6
      clear c6
      replace H := Option.bind_eq_some_iff.mp H
      obtain ⟨t271, A100, H⟩ := H
      replace H : (if 0 ≤ (Int.tmod a0 10) then (if (Int.tmod a0 10) ≤ (wrap64 ((Int.tmod a0 10) + 1)) then (if (wrap64 ((Int.tmod a0 10) + 1)) ≤ 10 then (if t271.size + ((⟨#[48, 49, 50, 51, 52, 53, 54, 55, 56, 57]⟩ : ByteArray).extract ((Int.tmod a0 10) : Int).toNat ((wrap64 ((Int.tmod a0 10) + 1)) : Int).toNat).size ≤ 9223372036854775807 then (some (t271 ++ ((⟨#[48, 49, 50, 51, 52, 53, 54, 55, 56, 57]⟩ : ByteArray).extract ((Int.tmod a0 10) : Int).toNat ((wrap64 ((Int.tmod a0 10) + 1)) : Int).toNat))) else (none)) else (none)) else (none)) else (none)) = some r := H
      have A10 := Aside0.mk A100
      clear A100
      obtain ⟨ji11, hji11⟩ : ∃ j_ : Int, (Int.tmod a0 10) = j_ := ⟨_, rfl⟩
      replace H : (if 0 ≤ (ji11) then (if (ji11) ≤ (wrap64 ((ji11) + 1)) then (if (wrap64 ((ji11) + 1)) ≤ 10 then (if t271.size + ((⟨#[48, 49, 50, 51, 52, 53, 54, 55, 56, 57]⟩ : ByteArray).extract ((ji11) : Int).toNat ((wrap64 ((ji11) + 1)) : Int).toNat).size ≤ 9223372036854775807 then (some (t271 ++ ((⟨#[48, 49, 50, 51, 52, 53, 54, 55, 56, 57]⟩ : ByteArray).extract ((ji11) : Int).toNat ((wrap64 ((ji11) + 1)) : Int).toNat))) else (none)) else (none)) else (none)) else (none)) = some r := by first | (rw [hji11] at H; exact H) | (simp only [hji11] at H ⊢; exact H)
      (try rw [hji11] at A10)
      by_cases c12 : 0 ≤ (ji11)
      · rw [if_pos c12] at H
        have c12b0 := eq_true c12
        have c12b1 : decide (0 ≤ (ji11)) = true := decide_eq_true c12
        clear c12
        by_cases c13 : (ji11) ≤ (wrap64 ((ji11) + 1))
        · rw [if_pos c13] at H
          have c13b0 := eq_true c13
          have c13b1 : decide ((ji11) ≤ (wrap64 ((ji11) + 1))) = true := decide_eq_true c13
          by_cases c14 : (wrap64 ((ji11) + 1)) ≤ 10
          · rw [if_pos c14] at H
            have c14b0 := eq_true c14
            have c14b1 : decide ((wrap64 ((ji11) + 1)) ≤ 10) = true := decide_eq_true c14
            by_cases c15 : t271.size + ((⟨#[48, 49, 50, 51, 52, 53, 54, 55, 56, 57]⟩ : ByteArray).extract ((ji11) : Int).toNat ((wrap64 ((ji11) + 1)) : Int).toNat).size ≤ 9223372036854775807
            · rw [if_pos c15] at H
              have c15b0 := eq_true c15
              have c15b1 : decide (t271.size + ((⟨#[48, 49, 50, 51, 52, 53, 54, 55, 56, 57]⟩ : ByteArray).extract ((ji11) : Int).toNat ((wrap64 ((ji11) + 1)) : Int).toNat).size ≤ 9223372036854775807) = true := decide_eq_true c15
              try have c15b2 : (9223372036854775807 < t271.size + ((⟨#[48, 49, 50, 51, 52, 53, 54, 55, 56, 57]⟩ : ByteArray).extract ((ji11) : Int).toNat ((wrap64 ((ji11) + 1)) : Int).toNat).size) = False := eq_false (Nat.not_lt.2 c15)
              have c15x : (9223372036854775807 < t271.size + ((wrap64 (ji11 + 1)).toNat - ji11.toNat)) = False := eq_false (by rw [ByteArray.size_extract, show (⟨#[48, 49, 50, 51, 52, 53, 54, 55, 56, 57]⟩ : ByteArray).size = 10 from rfl] at c15; omega)
              obtain rfl := Option.some.inj H
              go_enter Tryz.func56, Tryz.ntmps56
              try go_wp2
              have n0_ := Aside0.mk (below_drew1 HB.out)
              clear HB
              have HB := n0_
              clear n0_
              refine start_ (n := 11) (S := fun w' => True) (ds := []) #[false, false, false, false, false, false, false, false, false, false, false] (by kernel_rfl) rfl rfl trivial (fun hHeld => ?_); refine with_tabW plaitref19_dec.tab5 plaitref19_dec.bits5 (fun HT_ HW_ => ?_)
              generalize w.drew = w16 at HB hHeld ⊢
              refine pure_ (i := 0) (N := some 15) (v := ?_) (a' := ?_) #[true, false, false, false, false, false, false, false, false, false, false] rfl rfl (any_of HT_.out (by kernel_rfl)) (fun _ _ _ h => h) (Or.inl ⟨by rfl, ?_⟩) ?_ ?_
              rotate_left
              · intro w'
                go_simp
                with_reducible rfl
              rotate_left
              · simp only [Act.put, List.setIfInBounds_toArray, List.set_cons_zero, List.set_cons_succ, i64_w, i32_w]
                rfl
              refine pure_ (i := 1) (N := some 16) (v := ?_) (a' := ?_) #[true, true, false, false, false, false, false, false, false, false, false] rfl rfl (any_of HT_.out (by kernel_rfl)) (fun _ _ _ h => h) (Or.inl ⟨by rfl, ?_⟩) ?_ ?_
              rotate_left
              · intro w'
                go_simp
                with_reducible rfl
              rotate_left
              · simp only [Act.put, List.setIfInBounds_toArray, List.set_cons_zero, List.set_cons_succ, i64_w, i32_w]
                rfl
              refine pure_ (i := 3) (N := some 18) (v := ?_) (a' := ?_) #[true, true, false, true, false, false, false, false, false, false, false] rfl rfl (any_of HT_.out (by kernel_rfl)) (fun _ _ _ h => h) (Or.inl ⟨by rfl, ?_⟩) ?_ ?_
              rotate_left
              · intro w'
                go_simp
                with_reducible rfl
              rotate_left
              · simp only [Act.put, List.setIfInBounds_toArray, List.set_cons_zero, List.set_cons_succ, i64_w, i32_w]
                rfl
              refine pure_ (i := 4) (N := some 19) (v := ?_) (a' := ?_) #[true, true, false, true, true, false, false, false, false, false, false] rfl rfl (any_of HT_.out (by kernel_rfl)) (fun _ _ _ h => h) (Or.inl ⟨by rfl, ?_⟩) ?_ ?_
              rotate_left
              · intro w'
                go_simp
                with_reducible rfl
              rotate_left
              · simp only [Act.put, List.setIfInBounds_toArray, List.set_cons_zero, List.set_cons_succ, i64_w, i32_w]
                rfl
              refine pure_ (i := 5) (N := some 20) (v := ?_) (a' := ?_) #[true, true, false, true, true, true, false, false, false, false, false] rfl rfl (any_of HT_.out (by kernel_rfl)) (fun _ _ _ h => h) (Or.inl ⟨by rfl, ?_⟩) ?_ ?_
              rotate_left
              · intro w'
                go_simp
                with_reducible rfl
              rotate_left
              · simp only [Act.put, List.setIfInBounds_toArray, List.set_cons_zero, List.set_cons_succ, i64_w, i32_w]
                rfl
              refine pure_ (i := 6) (N := some 21) (v := ?_) (a' := ?_) #[true, true, false, true, true, true, true, false, false, false, false] rfl rfl (any_of HT_.out (by kernel_rfl)) (fun _ _ _ h => h) (Or.inl ⟨by rfl, ?_⟩) ?_ ?_
              rotate_left
              · intro w'
                go_simp
                with_reducible rfl
              rotate_left
              · simp only [Act.put, List.setIfInBounds_toArray, List.set_cons_zero, List.set_cons_succ, i64_w, i32_w]
                rfl
              refine pure_ (i := 7) (N := some 22) (v := ?_) (a' := ?_) #[true, true, false, true, true, true, true, true, false, false, false] rfl rfl (any_of HT_.out (by kernel_rfl)) (fun _ _ _ h => h) (Or.inl ⟨by rfl, ?_⟩) ?_ ?_
              rotate_left
              · intro w'
                go_simp
                with_reducible rfl
              rotate_left
              · simp only [Act.put, List.setIfInBounds_toArray, List.set_cons_zero, List.set_cons_succ, i64_w, i32_w]
                rfl
              refine pure_ (i := 8) (N := some 23) (v := ?_) (a' := ?_) #[true, true, false, true, true, true, true, true, true, false, false] rfl rfl (any_of HT_.out (by kernel_rfl)) (fun _ _ _ h => h) (Or.inl ⟨by rfl, ?_⟩) ?_ ?_
              rotate_left
              · intro w'
                go_simp
                with_reducible rfl
              rotate_left
              · simp only [Act.put, List.setIfInBounds_toArray, List.set_cons_zero, List.set_cons_succ, i64_w, i32_w]
                rfl
              refine one_ (i := 2) (N := some 17) #[true, true, true, true, true, true, true, true, true, false, false] rfl rfl (one_of HT_.out (by kernel_rfl)) (by decide) (fun K hK => ?_)
              refine goes_ Tryz.func56 (by kernel_rfl) rfl #[.int .i64 (wrap64 (Int.tdiv a0 10))] (by rfl) rfl rfl (by (try simp only [List.map_toArray, List.map_cons, List.map_nil]); first | done | rfl | (simp only [List.length_drop, List.length_take]; rfl)) ?_
              with_reducible refine (ih k (by omega) (wrap64 (Int.tdiv a0 10)) t271 _ A10.out).mono ?_
              rintro e w17 ⟨rfl, hb⟩
              refine ⟨_, rfl, ?_⟩
              have n0_ := Aside0.mk (below_step (by repeat (first | (with_reducible first | exact HB.out | apply below_alloc | apply pw_below_drewN | apply below_drew1) | exact HB.out)) hb)
              clear HB
              have HB := n0_
              clear n0_
              (try clear hb)
              (try clear hb2)
              (try clear hk)
              (try clear hi)
              refine hK.out _ _ trivial (fun hHeld => ?_)
              clear hK K
              refine norm_ (a' := ?_) ?_ ?_
              rotate_left
              · show Act.put _ (some 17) _ = _
                simp only [Act.put, List.setIfInBounds_toArray, List.set_cons_zero, List.set_cons_succ, i64_w, i32_w]
                rfl
              refine pure_ (i := 9) (N := some 24) (v := ?_) (a' := ?_) #[true, true, true, true, true, true, true, true, true, true, false] rfl rfl (any_of HT_.out (by kernel_rfl)) (fun _ _ _ h => h) (Or.inl ⟨by rfl, ?_⟩) ?_ ?_
              rotate_left
              · intro w'
                go_simp
                with_reducible rfl
              rotate_left
              · simp only [Act.put, List.setIfInBounds_toArray, List.set_cons_zero, List.set_cons_succ, i64_w, i32_w]
                rfl
              refine pure_ (i := 10) (N := some 2) (v := ?_) (a' := ?_) #[true, true, true, true, true, true, true, true, true, true, true] rfl rfl (any_of HT_.out (by kernel_rfl)) (fun _ _ _ h => h) (Or.inl ⟨by rfl, ?_⟩) ?_ ?_
              rotate_left
              · intro w'
                go_simp
                with_reducible rfl
              rotate_left
              · simp only [Act.put, List.setIfInBounds_toArray, List.set_cons_zero, List.set_cons_succ, i64_w, i32_w]
                rfl
              refine done_ (done_of HT_.out (by kernel_rfl)) ?_
              try go_wp2
              go_ret
              exact ⟨by first | rfl | (simp [errW_none, errW_some] <;> rfl) | (simp only [← hji11]; first | rfl | (simp [errW_none, errW_some] <;> rfl)) | (simp [*, errW_none, errW_some] <;> rfl), by repeat (first | (with_reducible first | exact HB.out | apply below_alloc | apply pw_below_drewN | apply below_drew1) | exact HB.out)⟩
            · rw [if_neg c15] at H
              exact absurd H (by simp)
          · rw [if_neg c14] at H
            exact absurd H (by simp)
        · rw [if_neg c13] at H
          exact absurd H (by simp)
      · rw [if_neg c12] at H
        exact absurd H (by simp)
/-! ### plaitref19_Print: function 20 -/
mutual
def plaitref19_Print.l0 : Nat → List (List Int) → Int → Int → Option (ByteArray × Int)
  | 0, _, _, _ => none
  | k + 1, x0, x4, x5 => if x5 < (x0.length : Int) then (plaitref19_Print.l1 k x0 x4 x5 0) else ((plaitref19_dec.f k x4).bind fun t283 => (if 6 + t283.size ≤ 9223372036854775807 then (if ((⟨#[112, 32, 99, 110, 102, 32]⟩ : ByteArray) ++ t283).size + 1 ≤ 9223372036854775807 then ((plaitref19_dec.f k (x0.length : Int)).bind fun t284 => (if (((⟨#[112, 32, 99, 110, 102, 32]⟩ : ByteArray) ++ t283) ++ (⟨#[32]⟩ : ByteArray)).size + t284.size ≤ 9223372036854775807 then (if ((((⟨#[112, 32, 99, 110, 102, 32]⟩ : ByteArray) ++ t283) ++ (⟨#[32]⟩ : ByteArray)) ++ t284).size + 1 ≤ 9223372036854775807 then (plaitref19_Print.l2 k x0 (((((⟨#[112, 32, 99, 110, 102, 32]⟩ : ByteArray) ++ t283) ++ (⟨#[32]⟩ : ByteArray)) ++ t284) ++ (⟨#[10]⟩ : ByteArray)) 0) else (none)) else (none))) else (none)) else (none)))
def plaitref19_Print.l1 : Nat → List (List Int) → Int → Int → Int → Option (ByteArray × Int)
  | 0, _, _, _, _ => none
  | k + 1, x0, x4, x5, x6 => if 0 ≤ x5 then (if x5 < (x0.length : Int) then (if x6 < ((rd_L1 x0 x5).length : Int) then (if 0 ≤ x6 then (if (rd (rd_L1 x0 x5) x6) = 0 then (some ((⟨#[]⟩ : ByteArray), 190)) else (if (rd (rd_L1 x0 x5) x6) > 65536 then (some ((⟨#[]⟩ : ByteArray), 190)) else (if (rd (rd_L1 x0 x5) x6) < (-65536) then (some ((⟨#[]⟩ : ByteArray), 190)) else (plaitref19_Print.l1 k x0 (mx (mx x4 (rd (rd_L1 x0 x5) x6)) (wrap64 (-(rd (rd_L1 x0 x5) x6)))) x5 (wrap64 (x6 + 1)))))) else (none)) else (plaitref19_Print.l0 k x0 x4 (wrap64 (x5 + 1)))) else (none)) else (none)
def plaitref19_Print.l2 : Nat → List (List Int) → ByteArray → Int → Option (ByteArray × Int)
  | 0, _, _, _ => none
  | k + 1, x0, x7, x8 => if x8 < (x0.length : Int) then (plaitref19_Print.l3 k x0 x7 x8 0) else (some (x7, 0))
def plaitref19_Print.l3 : Nat → List (List Int) → ByteArray → Int → Int → Option (ByteArray × Int)
  | 0, _, _, _, _ => none
  | k + 1, x0, x7, x8, x9 => if 0 ≤ x8 then (if x8 < (x0.length : Int) then (if x9 < ((rd_L1 x0 x8).length : Int) then (if 0 ≤ x9 then ((plaitref19_dec.f k (rd (rd_L1 x0 x8) x9)).bind fun t288 => (if x7.size + t288.size ≤ 9223372036854775807 then (if (x7 ++ t288).size + 1 ≤ 9223372036854775807 then (plaitref19_Print.l3 k x0 ((x7 ++ t288) ++ (⟨#[32]⟩ : ByteArray)) x8 (wrap64 (x9 + 1))) else (none)) else (none))) else (none)) else (if x7.size + 2 ≤ 9223372036854775807 then (if ((x7 ++ (⟨#[48, 10]⟩ : ByteArray)).size : Int) > 65536 then (some ((⟨#[]⟩ : ByteArray), 191)) else (plaitref19_Print.l2 k x0 (x7 ++ (⟨#[48, 10]⟩ : ByteArray)) (wrap64 (x8 + 1)))) else (none))) else (none)) else (none)
end
def plaitref19_Print.f (k : Nat) (l0 : List (List Int)) : Option (ByteArray × Int) := plaitref19_Print.l0 k l0 0 0
theorem plaitref19_Print.mono_l : ∀ k, (∀ y0 y1 y2, LeO (plaitref19_Print.l0 k y0 y1 y2) (plaitref19_Print.l0 (k + 1) y0 y1 y2)) ∧ (∀ y0 y1 y2 y3, LeO (plaitref19_Print.l1 k y0 y1 y2 y3) (plaitref19_Print.l1 (k + 1) y0 y1 y2 y3)) ∧ (∀ y0 y1 y2, LeO (plaitref19_Print.l2 k y0 y1 y2) (plaitref19_Print.l2 (k + 1) y0 y1 y2)) ∧ (∀ y0 y1 y2 y3, LeO (plaitref19_Print.l3 k y0 y1 y2 y3) (plaitref19_Print.l3 (k + 1) y0 y1 y2 y3))
  | 0 => ⟨fun _ _ _ r h => by simp [plaitref19_Print.l0] at h, fun _ _ _ _ r h => by simp [plaitref19_Print.l1] at h, fun _ _ _ r h => by simp [plaitref19_Print.l2] at h, fun _ _ _ _ r h => by simp [plaitref19_Print.l3] at h⟩
  | k + 1 => by
    obtain ⟨ih0, ih1, ih2, ih3⟩ := plaitref19_Print.mono_l k
    refine ⟨?_, ?_, ?_, ?_⟩
    · intro y0 y1 y2
      unfold plaitref19_Print.l0
      repeat' first
      | (with_reducible exact ih0 _ _ _)
      | (with_reducible exact ih1 _ _ _ _)
      | (with_reducible exact ih2 _ _ _)
      | (with_reducible exact ih3 _ _ _ _)
      | (with_reducible exact plaitref19_dec.mono _ _)
      | (with_reducible exact LeO.refl _)
      | (with_reducible exact LeO.none _)
      | (with_reducible refine LeO.ite ?_ ?_)
      | (with_reducible refine LeO.bind ?_ (fun _ => ?_))
      | exact ih0 _ _ _
      | exact ih1 _ _ _ _
      | exact ih2 _ _ _
      | exact ih3 _ _ _ _
      | exact plaitref19_dec.mono _ _
      | exact LeO.none _
      | refine LeO.ite ?_ ?_
      | refine LeO.bind ?_ (fun _ => ?_)
    · intro y0 y1 y2 y3
      unfold plaitref19_Print.l1
      repeat' first
      | (with_reducible exact ih0 _ _ _)
      | (with_reducible exact ih1 _ _ _ _)
      | (with_reducible exact ih2 _ _ _)
      | (with_reducible exact ih3 _ _ _ _)
      | (with_reducible exact plaitref19_dec.mono _ _)
      | (with_reducible exact LeO.refl _)
      | (with_reducible exact LeO.none _)
      | (with_reducible refine LeO.ite ?_ ?_)
      | (with_reducible refine LeO.bind ?_ (fun _ => ?_))
      | exact ih0 _ _ _
      | exact ih1 _ _ _ _
      | exact ih2 _ _ _
      | exact ih3 _ _ _ _
      | exact plaitref19_dec.mono _ _
      | exact LeO.none _
      | refine LeO.ite ?_ ?_
      | refine LeO.bind ?_ (fun _ => ?_)
    · intro y0 y1 y2
      unfold plaitref19_Print.l2
      repeat' first
      | (with_reducible exact ih0 _ _ _)
      | (with_reducible exact ih1 _ _ _ _)
      | (with_reducible exact ih2 _ _ _)
      | (with_reducible exact ih3 _ _ _ _)
      | (with_reducible exact plaitref19_dec.mono _ _)
      | (with_reducible exact LeO.refl _)
      | (with_reducible exact LeO.none _)
      | (with_reducible refine LeO.ite ?_ ?_)
      | (with_reducible refine LeO.bind ?_ (fun _ => ?_))
      | exact ih0 _ _ _
      | exact ih1 _ _ _ _
      | exact ih2 _ _ _
      | exact ih3 _ _ _ _
      | exact plaitref19_dec.mono _ _
      | exact LeO.none _
      | refine LeO.ite ?_ ?_
      | refine LeO.bind ?_ (fun _ => ?_)
    · intro y0 y1 y2 y3
      unfold plaitref19_Print.l3
      repeat' first
      | (with_reducible exact ih0 _ _ _)
      | (with_reducible exact ih1 _ _ _ _)
      | (with_reducible exact ih2 _ _ _)
      | (with_reducible exact ih3 _ _ _ _)
      | (with_reducible exact plaitref19_dec.mono _ _)
      | (with_reducible exact LeO.refl _)
      | (with_reducible exact LeO.none _)
      | (with_reducible refine LeO.ite ?_ ?_)
      | (with_reducible refine LeO.bind ?_ (fun _ => ?_))
      | exact ih0 _ _ _
      | exact ih1 _ _ _ _
      | exact ih2 _ _ _
      | exact ih3 _ _ _ _
      | exact plaitref19_dec.mono _ _
      | exact LeO.none _
      | refine LeO.ite ?_ ?_
      | refine LeO.bind ?_ (fun _ => ?_)
theorem plaitref19_Print.mono : ∀ a0 k, LeO (plaitref19_Print.f k a0) (plaitref19_Print.f (k + 1) a0) := by
  intro a0 k
  obtain ⟨ih0, ih1, ih2, ih3⟩ := plaitref19_Print.mono_l k
  unfold plaitref19_Print.f
  repeat' first
      | (with_reducible exact ih0 _ _ _)
      | (with_reducible exact ih1 _ _ _ _)
      | (with_reducible exact ih2 _ _ _)
      | (with_reducible exact ih3 _ _ _ _)
      | (with_reducible exact plaitref19_dec.mono _ _)
      | (with_reducible exact LeO.refl _)
      | (with_reducible exact LeO.none _)
      | (with_reducible refine LeO.ite ?_ ?_)
      | (with_reducible refine LeO.bind ?_ (fun _ => ?_))
      | exact ih0 _ _ _
      | exact ih1 _ _ _ _
      | exact ih2 _ _ _
      | exact ih3 _ _ _ _
      | exact plaitref19_dec.mono _ _
      | exact LeO.none _
      | refine LeO.ite ?_ ?_
      | refine LeO.bind ?_ (fun _ => ?_)
set_option maxHeartbeats 8000000 in
set_option maxRecDepth 100000 in
theorem plaitref19_Print.calls (k : Nat) (A0 : Option Addr) (c0 : Nat) (l0 : List (List Int)) (r1 : ByteArray) (r2 : Int) (w : World) (hr0 : Kd.C (Kd.slice 3 (Kd.int .i64)) w A0 l0.length l0) (hc0 : l0.length ≤ c0) (h : plaitref19_Print.f k l0 = some (r1, r2)) :
    Calls Tryz.prog 20 #[.slice A0 l0.length c0] w fun e w' => e = .returned (.tuple #[.string r1, .int .i64 r2]) ∧ Below w.heap.size w w' := by
  have HR0 := Aside0.mk hr0
  have HC0 := Aside0.mk hc0
  clear hr0 hc0
  have HB := Aside0.mk (Below.refl w.heap.size w)
  have H : (plaitref19_Print.l0 k l0 0 0) = some (r1, r2) := h
  clear h
  have H' := Aside0.mk H
  clear H
  go_enter Tryz.func20, Tryz.ntmps20
  go_wp2
  repeat (go_quiet (fail); try go_wp2)
  go_loopg [4, 5] k (fun kq v4 v5 w' => ∃ (x4_1 : Int) (x5_1 : Int), v4 = .int .i64 x4_1 ∧ v5 = .int .i64 x5_1 ∧ Aside0 (plaitref19_Print.l0 kq l0 x4_1 x5_1 = some (r1, r2)) ∧ Aside0 (kq ≤ k) ∧ Aside0 (Below w.heap.size w w'))
  case atStart => exact ⟨(0), (0), (by first | rfl | (simp; done) | (simp [*]; done)), (by first | rfl | (simp; done) | (simp [*]; done)), H', ⟨Nat.le_refl _⟩, ⟨by repeat (first | (with_reducible first | exact HB.out | apply below_alloc | apply pw_below_drewN | apply below_drew1) | exact HB.out)⟩⟩
  case round =>
    clear H'
    obtain ⟨x4_1, x5_1, rfl, rfl, HA, HK1, HB⟩ := hrel
    cases gk with
    | zero => exact absurd HA.out (by simp [plaitref19_Print.l0])
    | succ k1 =>
      have H := HA.out
      clear HA
      simp only [plaitref19_Print.l0] at H
      by_cases c2 : x5_1 < (l0.length : Int)
      · rw [if_pos c2] at H
        have c2b0 : decide (x5_1 < (l0.length : Int)) = true := decide_eq_true c2
        clear c2
        have H' := Aside0.mk H
        clear H
        go_wp2
        repeat (go_quiet (fail); try go_wp2)
        go_loopg [4, 6] k1 (fun kq v4 v6 w' => ∃ (x4_2 : Int) (x6_2 : Int), v4 = .int .i64 x4_2 ∧ v6 = .int .i64 x6_2 ∧ Aside0 (plaitref19_Print.l1 kq l0 x4_2 x5_1 x6_2 = some (r1, r2)) ∧ Aside0 (kq ≤ k1) ∧ Aside0 (Below w.heap.size w w'))
        case atStart => exact ⟨(x4_1), (0), (by first | rfl | (simp; done) | (simp [*]; done)), (by first | rfl | (simp; done) | (simp [*]; done)), H', ⟨Nat.le_refl _⟩, ⟨by repeat (first | (with_reducible first | exact HB.out | apply below_alloc | apply pw_below_drewN | apply below_drew1) | exact HB.out)⟩⟩
        case round =>
          clear H'
          try clear c2
          try clear c2b0
          try clear p2
          obtain ⟨x4_2, x6_2, rfl, rfl, HA, HK2, HB⟩ := hrel
          cases gk with
          | zero => exact absurd HA.out (by simp [plaitref19_Print.l1])
          | succ k2 =>
            have H := HA.out
            clear HA
            simp only [plaitref19_Print.l1] at H
            by_cases c3 : 0 ≤ x5_1
            · rw [if_pos c3] at H
              have c3b0 : decide (0 ≤ x5_1) = true := decide_eq_true c3
              clear c3
              by_cases c4 : x5_1 < (l0.length : Int)
              · rw [if_pos c4] at H
                have c4b0 : decide (x5_1 < (l0.length : Int)) = true := decide_eq_true c4
                clear c4
                by_cases c5 : x6_2 < ((rd_L1 l0 x5_1).length : Int)
                · rw [if_pos c5] at H
                  have c5b0 : decide (x6_2 < ((rd_L1 l0 x5_1).length : Int)) = true := decide_eq_true c5
                  clear c5
                  by_cases c6 : 0 ≤ x6_2
                  · rw [if_pos c6] at H
                    have c6b0 : decide (0 ≤ x6_2) = true := decide_eq_true c6
                    clear c6
                    by_cases c7 : (rd (rd_L1 l0 x5_1) x6_2) = 0
                    · rw [if_pos c7] at H
                      have c7b0 : ((rd (rd_L1 l0 x5_1) x6_2) == 0) = true := beq_iff_eq.mpr c7
                      have c7b1 : ((rd (rd_L1 l0 x5_1) x6_2) != 0) = false := bne_eq_false_iff_eq.mpr c7
                      clear c7
                      simp only [Option.some.injEq, Prod.mk.injEq] at H
                      obtain ⟨rfl, rfl⟩ := H
                      have p272 : 0 ≤ (x5_1 : Int) := of_decide_eq_true (by first | (with_reducible assumption) | assumption)
                      have q272 : x5_1 < (l0.length : Int) := of_decide_eq_true (by first | (with_reducible assumption) | assumption)
                      obtain ⟨ad272, A272_0, c272_0, e272, hx272_0, hl272_0, hi272_0⟩ := at_L1 HR0.out x5_1 p272 q272
                      cases e272
                      replace hx272_0 := (HB.out.cell (World.block_lt_of_cell? w _ hx272_0)).trans hx272_0
                      have HR272_0 := Aside0.mk hi272_0
                      have HC272_0 := Aside0.mk hl272_0
                      clear hi272_0 hl272_0
                      replace p272 := eq_true p272
                      replace q272 := eq_true q272
                      have p273 : 0 ≤ (x5_1 : Int) := of_decide_eq_true (by first | (with_reducible assumption) | assumption)
                      have q273 : x5_1 < (l0.length : Int) := of_decide_eq_true (by first | (with_reducible assumption) | assumption)
                      obtain ⟨ad273, A273_0, c273_0, e273, hx273_0, hl273_0, hi273_0⟩ := at_L1 HR0.out x5_1 p273 q273
                      obtain rfl : ad272 = ad273 := (by injection e273)
                      replace hx273_0 := (HB.out.cell (World.block_lt_of_cell? w _ hx273_0)).trans hx273_0
                      have HR273_0 := Aside0.mk hi273_0
                      have HC273_0 := Aside0.mk hl273_0
                      clear hi273_0 hl273_0
                      replace p273 := eq_true p273
                      replace q273 := eq_true q273
                      have ea_ := Option.some.inj (hx272_0.symm.trans hx273_0)
                      injection ea_ with ea_ en_ ec_
                      subst ea_
                      subst ec_
                      clear en_
                      have p274 : 0 ≤ (x6_2 : Int) := of_decide_eq_true (by first | (with_reducible assumption) | assumption)
                      have q274 : x6_2 < ((rd_L1 l0 x5_1).length : Int) := of_decide_eq_true (by first | (with_reducible assumption) | assumption)
                      obtain ⟨ad274, e274, hx274_0⟩ := Kd.at_int HR273_0.out x6_2 p274 q274
                      cases e274
                      replace hx274_0 := (HB.out.cell (World.block_lt_of_cell? w _ hx274_0)).trans hx274_0
                      replace p274 := eq_true p274
                      replace q274 := eq_true q274
                      go_wp2
                      repeat (go_quiet (fail); try go_wp2)
                      go_ret2
                      exact ⟨by first | rfl | (simp [errW_none, errW_some] <;> rfl) | (simp [*, errW_none, errW_some] <;> rfl), by repeat (first | (with_reducible first | exact HB.out | apply below_alloc | apply pw_below_drewN | apply below_drew1) | exact HB.out)⟩
                    · rw [if_neg c7] at H
                      have c7b0 : ((rd (rd_L1 l0 x5_1) x6_2) == 0) = false := beq_eq_false_iff_ne.mpr c7
                      have c7b1 : ((rd (rd_L1 l0 x5_1) x6_2) != 0) = true := bne_iff_ne.mpr c7
                      by_cases c8 : (rd (rd_L1 l0 x5_1) x6_2) > 65536
                      · rw [if_pos c8] at H
                        have c8b0 : decide (65536 < (rd (rd_L1 l0 x5_1) x6_2)) = true := decide_eq_true c8
                        clear c8
                        simp only [Option.some.injEq, Prod.mk.injEq] at H
                        obtain ⟨rfl, rfl⟩ := H
                        have p272 : 0 ≤ (x5_1 : Int) := of_decide_eq_true (by first | (with_reducible assumption) | assumption)
                        have q272 : x5_1 < (l0.length : Int) := of_decide_eq_true (by first | (with_reducible assumption) | assumption)
                        obtain ⟨ad272, A272_0, c272_0, e272, hx272_0, hl272_0, hi272_0⟩ := at_L1 HR0.out x5_1 p272 q272
                        cases e272
                        replace hx272_0 := (HB.out.cell (World.block_lt_of_cell? w _ hx272_0)).trans hx272_0
                        have HR272_0 := Aside0.mk hi272_0
                        have HC272_0 := Aside0.mk hl272_0
                        clear hi272_0 hl272_0
                        replace p272 := eq_true p272
                        replace q272 := eq_true q272
                        have p273 : 0 ≤ (x5_1 : Int) := of_decide_eq_true (by first | (with_reducible assumption) | assumption)
                        have q273 : x5_1 < (l0.length : Int) := of_decide_eq_true (by first | (with_reducible assumption) | assumption)
                        obtain ⟨ad273, A273_0, c273_0, e273, hx273_0, hl273_0, hi273_0⟩ := at_L1 HR0.out x5_1 p273 q273
                        obtain rfl : ad272 = ad273 := (by injection e273)
                        replace hx273_0 := (HB.out.cell (World.block_lt_of_cell? w _ hx273_0)).trans hx273_0
                        have HR273_0 := Aside0.mk hi273_0
                        have HC273_0 := Aside0.mk hl273_0
                        clear hi273_0 hl273_0
                        replace p273 := eq_true p273
                        replace q273 := eq_true q273
                        have ea_ := Option.some.inj (hx272_0.symm.trans hx273_0)
                        injection ea_ with ea_ en_ ec_
                        subst ea_
                        subst ec_
                        clear en_
                        have p274 : 0 ≤ (x6_2 : Int) := of_decide_eq_true (by first | (with_reducible assumption) | assumption)
                        have q274 : x6_2 < ((rd_L1 l0 x5_1).length : Int) := of_decide_eq_true (by first | (with_reducible assumption) | assumption)
                        obtain ⟨ad274, e274, hx274_0⟩ := Kd.at_int HR273_0.out x6_2 p274 q274
                        cases e274
                        replace hx274_0 := (HB.out.cell (World.block_lt_of_cell? w _ hx274_0)).trans hx274_0
                        replace p274 := eq_true p274
                        replace q274 := eq_true q274
                        have p275 : 0 ≤ (x5_1 : Int) := of_decide_eq_true (by first | (with_reducible assumption) | assumption)
                        have q275 : x5_1 < (l0.length : Int) := of_decide_eq_true (by first | (with_reducible assumption) | assumption)
                        obtain ⟨ad275, A275_0, c275_0, e275, hx275_0, hl275_0, hi275_0⟩ := at_L1 HR0.out x5_1 p275 q275
                        obtain rfl : ad272 = ad275 := (by injection e275)
                        replace hx275_0 := (HB.out.cell (World.block_lt_of_cell? w _ hx275_0)).trans hx275_0
                        have HR275_0 := Aside0.mk hi275_0
                        have HC275_0 := Aside0.mk hl275_0
                        clear hi275_0 hl275_0
                        replace p275 := eq_true p275
                        replace q275 := eq_true q275
                        have ea_ := Option.some.inj (hx272_0.symm.trans hx275_0)
                        injection ea_ with ea_ en_ ec_
                        subst ea_
                        subst ec_
                        clear en_
                        have p276 : 0 ≤ (x6_2 : Int) := of_decide_eq_true (by first | (with_reducible assumption) | assumption)
                        have q276 : x6_2 < ((rd_L1 l0 x5_1).length : Int) := of_decide_eq_true (by first | (with_reducible assumption) | assumption)
                        obtain ⟨ad276, e276, hx276_0⟩ := Kd.at_int HR275_0.out x6_2 p276 q276
                        cases e276
                        replace hx276_0 := (HB.out.cell (World.block_lt_of_cell? w _ hx276_0)).trans hx276_0
                        replace p276 := eq_true p276
                        replace q276 := eq_true q276
                        go_wp2
                        repeat (go_quiet (fail); try go_wp2)
                        go_ret2
                        exact ⟨by first | rfl | (simp [errW_none, errW_some] <;> rfl) | (simp [*, errW_none, errW_some] <;> rfl), by repeat (first | (with_reducible first | exact HB.out | apply below_alloc | apply pw_below_drewN | apply below_drew1) | exact HB.out)⟩
                      · rw [if_neg c8] at H
                        have c8b0 : decide (65536 < (rd (rd_L1 l0 x5_1) x6_2)) = false := decide_eq_false c8
                        clear c8
                        by_cases c9 : (rd (rd_L1 l0 x5_1) x6_2) < (-65536)
                        · rw [if_pos c9] at H
                          have c9b0 : decide ((rd (rd_L1 l0 x5_1) x6_2) < (-65536)) = true := decide_eq_true c9
                          clear c9
                          simp only [Option.some.injEq, Prod.mk.injEq] at H
                          obtain ⟨rfl, rfl⟩ := H
                          have p272 : 0 ≤ (x5_1 : Int) := of_decide_eq_true (by first | (with_reducible assumption) | assumption)
                          have q272 : x5_1 < (l0.length : Int) := of_decide_eq_true (by first | (with_reducible assumption) | assumption)
                          obtain ⟨ad272, A272_0, c272_0, e272, hx272_0, hl272_0, hi272_0⟩ := at_L1 HR0.out x5_1 p272 q272
                          cases e272
                          replace hx272_0 := (HB.out.cell (World.block_lt_of_cell? w _ hx272_0)).trans hx272_0
                          have HR272_0 := Aside0.mk hi272_0
                          have HC272_0 := Aside0.mk hl272_0
                          clear hi272_0 hl272_0
                          replace p272 := eq_true p272
                          replace q272 := eq_true q272
                          have p273 : 0 ≤ (x5_1 : Int) := of_decide_eq_true (by first | (with_reducible assumption) | assumption)
                          have q273 : x5_1 < (l0.length : Int) := of_decide_eq_true (by first | (with_reducible assumption) | assumption)
                          obtain ⟨ad273, A273_0, c273_0, e273, hx273_0, hl273_0, hi273_0⟩ := at_L1 HR0.out x5_1 p273 q273
                          obtain rfl : ad272 = ad273 := (by injection e273)
                          replace hx273_0 := (HB.out.cell (World.block_lt_of_cell? w _ hx273_0)).trans hx273_0
                          have HR273_0 := Aside0.mk hi273_0
                          have HC273_0 := Aside0.mk hl273_0
                          clear hi273_0 hl273_0
                          replace p273 := eq_true p273
                          replace q273 := eq_true q273
                          have ea_ := Option.some.inj (hx272_0.symm.trans hx273_0)
                          injection ea_ with ea_ en_ ec_
                          subst ea_
                          subst ec_
                          clear en_
                          have p274 : 0 ≤ (x6_2 : Int) := of_decide_eq_true (by first | (with_reducible assumption) | assumption)
                          have q274 : x6_2 < ((rd_L1 l0 x5_1).length : Int) := of_decide_eq_true (by first | (with_reducible assumption) | assumption)
                          obtain ⟨ad274, e274, hx274_0⟩ := Kd.at_int HR273_0.out x6_2 p274 q274
                          cases e274
                          replace hx274_0 := (HB.out.cell (World.block_lt_of_cell? w _ hx274_0)).trans hx274_0
                          replace p274 := eq_true p274
                          replace q274 := eq_true q274
                          have p275 : 0 ≤ (x5_1 : Int) := of_decide_eq_true (by first | (with_reducible assumption) | assumption)
                          have q275 : x5_1 < (l0.length : Int) := of_decide_eq_true (by first | (with_reducible assumption) | assumption)
                          obtain ⟨ad275, A275_0, c275_0, e275, hx275_0, hl275_0, hi275_0⟩ := at_L1 HR0.out x5_1 p275 q275
                          obtain rfl : ad272 = ad275 := (by injection e275)
                          replace hx275_0 := (HB.out.cell (World.block_lt_of_cell? w _ hx275_0)).trans hx275_0
                          have HR275_0 := Aside0.mk hi275_0
                          have HC275_0 := Aside0.mk hl275_0
                          clear hi275_0 hl275_0
                          replace p275 := eq_true p275
                          replace q275 := eq_true q275
                          have ea_ := Option.some.inj (hx272_0.symm.trans hx275_0)
                          injection ea_ with ea_ en_ ec_
                          subst ea_
                          subst ec_
                          clear en_
                          have p276 : 0 ≤ (x6_2 : Int) := of_decide_eq_true (by first | (with_reducible assumption) | assumption)
                          have q276 : x6_2 < ((rd_L1 l0 x5_1).length : Int) := of_decide_eq_true (by first | (with_reducible assumption) | assumption)
                          obtain ⟨ad276, e276, hx276_0⟩ := Kd.at_int HR275_0.out x6_2 p276 q276
                          cases e276
                          replace hx276_0 := (HB.out.cell (World.block_lt_of_cell? w _ hx276_0)).trans hx276_0
                          replace p276 := eq_true p276
                          replace q276 := eq_true q276
                          have p277 : 0 ≤ (x5_1 : Int) := of_decide_eq_true (by first | (with_reducible assumption) | assumption)
                          have q277 : x5_1 < (l0.length : Int) := of_decide_eq_true (by first | (with_reducible assumption) | assumption)
                          obtain ⟨ad277, A277_0, c277_0, e277, hx277_0, hl277_0, hi277_0⟩ := at_L1 HR0.out x5_1 p277 q277
                          obtain rfl : ad272 = ad277 := (by injection e277)
                          replace hx277_0 := (HB.out.cell (World.block_lt_of_cell? w _ hx277_0)).trans hx277_0
                          have HR277_0 := Aside0.mk hi277_0
                          have HC277_0 := Aside0.mk hl277_0
                          clear hi277_0 hl277_0
                          replace p277 := eq_true p277
                          replace q277 := eq_true q277
                          have ea_ := Option.some.inj (hx272_0.symm.trans hx277_0)
                          injection ea_ with ea_ en_ ec_
                          subst ea_
                          subst ec_
                          clear en_
                          have p278 : 0 ≤ (x6_2 : Int) := of_decide_eq_true (by first | (with_reducible assumption) | assumption)
                          have q278 : x6_2 < ((rd_L1 l0 x5_1).length : Int) := of_decide_eq_true (by first | (with_reducible assumption) | assumption)
                          obtain ⟨ad278, e278, hx278_0⟩ := Kd.at_int HR277_0.out x6_2 p278 q278
                          cases e278
                          replace hx278_0 := (HB.out.cell (World.block_lt_of_cell? w _ hx278_0)).trans hx278_0
                          replace p278 := eq_true p278
                          replace q278 := eq_true q278
                          go_wp2
                          repeat (go_quiet (fail); try go_wp2)
                          go_ret2
                          exact ⟨by first | rfl | (simp [errW_none, errW_some] <;> rfl) | (simp [*, errW_none, errW_some] <;> rfl), by repeat (first | (with_reducible first | exact HB.out | apply below_alloc | apply pw_below_drewN | apply below_drew1) | exact HB.out)⟩
                        · rw [if_neg c9] at H
                          have c9b0 : decide ((rd (rd_L1 l0 x5_1) x6_2) < (-65536)) = false := decide_eq_false c9
                          clear c9
                          obtain ⟨ji10, hji10⟩ : ∃ j_ : Int, (mx x4_2 (rd (rd_L1 l0 x5_1) x6_2)) = j_ := ⟨_, rfl⟩
                          replace H : (plaitref19_Print.l1 k2 l0 (mx (ji10) (wrap64 (-(rd (rd_L1 l0 x5_1) x6_2)))) x5_1 (wrap64 (x6_2 + 1))) = some (r1, r2) := by first | (rw [hji10] at H; exact H) | (simp only [hji10] at H ⊢; exact H)
                          have hji10_ : (if x4_2 < (rd (rd_L1 l0 x5_1) x6_2) then (rd (rd_L1 l0 x5_1) x6_2) else x4_2) = ji10 := hji10
                          obtain ⟨ji11, hji11⟩ : ∃ j_ : Int, (mx (ji10) (wrap64 (-(rd (rd_L1 l0 x5_1) x6_2)))) = j_ := ⟨_, rfl⟩
                          replace H : (plaitref19_Print.l1 k2 l0 ji11 x5_1 (wrap64 (x6_2 + 1))) = some (r1, r2) := by first | (rw [hji11] at H; exact H) | (simp only [hji11] at H ⊢; exact H)
                          have hji11_ : (if (ji10) < (wrap64 (-(rd (rd_L1 l0 x5_1) x6_2))) then (wrap64 (-(rd (rd_L1 l0 x5_1) x6_2))) else (ji10)) = ji11 := hji11
                          have H' := Aside0.mk H
                          clear H
                          have p272 : 0 ≤ (x5_1 : Int) := of_decide_eq_true (by first | (with_reducible assumption) | assumption)
                          have q272 : x5_1 < (l0.length : Int) := of_decide_eq_true (by first | (with_reducible assumption) | assumption)
                          obtain ⟨ad272, A272_0, c272_0, e272, hx272_0, hl272_0, hi272_0⟩ := at_L1 HR0.out x5_1 p272 q272
                          cases e272
                          replace hx272_0 := (HB.out.cell (World.block_lt_of_cell? w _ hx272_0)).trans hx272_0
                          have HR272_0 := Aside0.mk hi272_0
                          have HC272_0 := Aside0.mk hl272_0
                          clear hi272_0 hl272_0
                          replace p272 := eq_true p272
                          replace q272 := eq_true q272
                          have p273 : 0 ≤ (x5_1 : Int) := of_decide_eq_true (by first | (with_reducible assumption) | assumption)
                          have q273 : x5_1 < (l0.length : Int) := of_decide_eq_true (by first | (with_reducible assumption) | assumption)
                          obtain ⟨ad273, A273_0, c273_0, e273, hx273_0, hl273_0, hi273_0⟩ := at_L1 HR0.out x5_1 p273 q273
                          obtain rfl : ad272 = ad273 := (by injection e273)
                          replace hx273_0 := (HB.out.cell (World.block_lt_of_cell? w _ hx273_0)).trans hx273_0
                          have HR273_0 := Aside0.mk hi273_0
                          have HC273_0 := Aside0.mk hl273_0
                          clear hi273_0 hl273_0
                          replace p273 := eq_true p273
                          replace q273 := eq_true q273
                          have ea_ := Option.some.inj (hx272_0.symm.trans hx273_0)
                          injection ea_ with ea_ en_ ec_
                          subst ea_
                          subst ec_
                          clear en_
                          have p274 : 0 ≤ (x6_2 : Int) := of_decide_eq_true (by first | (with_reducible assumption) | assumption)
                          have q274 : x6_2 < ((rd_L1 l0 x5_1).length : Int) := of_decide_eq_true (by first | (with_reducible assumption) | assumption)
                          obtain ⟨ad274, e274, hx274_0⟩ := Kd.at_int HR273_0.out x6_2 p274 q274
                          cases e274
                          replace hx274_0 := (HB.out.cell (World.block_lt_of_cell? w _ hx274_0)).trans hx274_0
                          replace p274 := eq_true p274
                          replace q274 := eq_true q274
                          have p275 : 0 ≤ (x5_1 : Int) := of_decide_eq_true (by first | (with_reducible assumption) | assumption)
                          have q275 : x5_1 < (l0.length : Int) := of_decide_eq_true (by first | (with_reducible assumption) | assumption)
                          obtain ⟨ad275, A275_0, c275_0, e275, hx275_0, hl275_0, hi275_0⟩ := at_L1 HR0.out x5_1 p275 q275
                          obtain rfl : ad272 = ad275 := (by injection e275)
                          replace hx275_0 := (HB.out.cell (World.block_lt_of_cell? w _ hx275_0)).trans hx275_0
                          have HR275_0 := Aside0.mk hi275_0
                          have HC275_0 := Aside0.mk hl275_0
                          clear hi275_0 hl275_0
                          replace p275 := eq_true p275
                          replace q275 := eq_true q275
                          have ea_ := Option.some.inj (hx272_0.symm.trans hx275_0)
                          injection ea_ with ea_ en_ ec_
                          subst ea_
                          subst ec_
                          clear en_
                          have p276 : 0 ≤ (x6_2 : Int) := of_decide_eq_true (by first | (with_reducible assumption) | assumption)
                          have q276 : x6_2 < ((rd_L1 l0 x5_1).length : Int) := of_decide_eq_true (by first | (with_reducible assumption) | assumption)
                          obtain ⟨ad276, e276, hx276_0⟩ := Kd.at_int HR275_0.out x6_2 p276 q276
                          cases e276
                          replace hx276_0 := (HB.out.cell (World.block_lt_of_cell? w _ hx276_0)).trans hx276_0
                          replace p276 := eq_true p276
                          replace q276 := eq_true q276
                          have p277 : 0 ≤ (x5_1 : Int) := of_decide_eq_true (by first | (with_reducible assumption) | assumption)
                          have q277 : x5_1 < (l0.length : Int) := of_decide_eq_true (by first | (with_reducible assumption) | assumption)
                          obtain ⟨ad277, A277_0, c277_0, e277, hx277_0, hl277_0, hi277_0⟩ := at_L1 HR0.out x5_1 p277 q277
                          obtain rfl : ad272 = ad277 := (by injection e277)
                          replace hx277_0 := (HB.out.cell (World.block_lt_of_cell? w _ hx277_0)).trans hx277_0
                          have HR277_0 := Aside0.mk hi277_0
                          have HC277_0 := Aside0.mk hl277_0
                          clear hi277_0 hl277_0
                          replace p277 := eq_true p277
                          replace q277 := eq_true q277
                          have ea_ := Option.some.inj (hx272_0.symm.trans hx277_0)
                          injection ea_ with ea_ en_ ec_
                          subst ea_
                          subst ec_
                          clear en_
                          have p278 : 0 ≤ (x6_2 : Int) := of_decide_eq_true (by first | (with_reducible assumption) | assumption)
                          have q278 : x6_2 < ((rd_L1 l0 x5_1).length : Int) := of_decide_eq_true (by first | (with_reducible assumption) | assumption)
                          obtain ⟨ad278, e278, hx278_0⟩ := Kd.at_int HR277_0.out x6_2 p278 q278
                          cases e278
                          replace hx278_0 := (HB.out.cell (World.block_lt_of_cell? w _ hx278_0)).trans hx278_0
                          replace p278 := eq_true p278
                          replace q278 := eq_true q278
                          have p279 : 0 ≤ (x5_1 : Int) := of_decide_eq_true (by first | (with_reducible assumption) | assumption)
                          have q279 : x5_1 < (l0.length : Int) := of_decide_eq_true (by first | (with_reducible assumption) | assumption)
                          obtain ⟨ad279, A279_0, c279_0, e279, hx279_0, hl279_0, hi279_0⟩ := at_L1 HR0.out x5_1 p279 q279
                          obtain rfl : ad272 = ad279 := (by injection e279)
                          replace hx279_0 := (HB.out.cell (World.block_lt_of_cell? w _ hx279_0)).trans hx279_0
                          have HR279_0 := Aside0.mk hi279_0
                          have HC279_0 := Aside0.mk hl279_0
                          clear hi279_0 hl279_0
                          replace p279 := eq_true p279
                          replace q279 := eq_true q279
                          have ea_ := Option.some.inj (hx272_0.symm.trans hx279_0)
                          injection ea_ with ea_ en_ ec_
                          subst ea_
                          subst ec_
                          clear en_
                          have p280 : 0 ≤ (x6_2 : Int) := of_decide_eq_true (by first | (with_reducible assumption) | assumption)
                          have q280 : x6_2 < ((rd_L1 l0 x5_1).length : Int) := of_decide_eq_true (by first | (with_reducible assumption) | assumption)
                          obtain ⟨ad280, e280, hx280_0⟩ := Kd.at_int HR279_0.out x6_2 p280 q280
                          cases e280
                          replace hx280_0 := (HB.out.cell (World.block_lt_of_cell? w _ hx280_0)).trans hx280_0
                          replace p280 := eq_true p280
                          replace q280 := eq_true q280
                          have p281 : 0 ≤ (x5_1 : Int) := of_decide_eq_true (by first | (with_reducible assumption) | assumption)
                          have q281 : x5_1 < (l0.length : Int) := of_decide_eq_true (by first | (with_reducible assumption) | assumption)
                          obtain ⟨ad281, A281_0, c281_0, e281, hx281_0, hl281_0, hi281_0⟩ := at_L1 HR0.out x5_1 p281 q281
                          obtain rfl : ad272 = ad281 := (by injection e281)
                          replace hx281_0 := (HB.out.cell (World.block_lt_of_cell? w _ hx281_0)).trans hx281_0
                          have HR281_0 := Aside0.mk hi281_0
                          have HC281_0 := Aside0.mk hl281_0
                          clear hi281_0 hl281_0
                          replace p281 := eq_true p281
                          replace q281 := eq_true q281
                          have ea_ := Option.some.inj (hx272_0.symm.trans hx281_0)
                          injection ea_ with ea_ en_ ec_
                          subst ea_
                          subst ec_
                          clear en_
                          have p282 : 0 ≤ (x6_2 : Int) := of_decide_eq_true (by first | (with_reducible assumption) | assumption)
                          have q282 : x6_2 < ((rd_L1 l0 x5_1).length : Int) := of_decide_eq_true (by first | (with_reducible assumption) | assumption)
                          obtain ⟨ad282, e282, hx282_0⟩ := Kd.at_int HR281_0.out x6_2 p282 q282
                          cases e282
                          replace hx282_0 := (HB.out.cell (World.block_lt_of_cell? w _ hx282_0)).trans hx282_0
                          replace p282 := eq_true p282
                          replace q282 := eq_true q282
                          go_wp2
                          repeat (go_quiet (fail); try go_wp2)
                          go_roundg k2
                          case measure => have := HK1.out; have := HK2.out; omega
                          case rel => exact ⟨(ji11), (wrap64 (x6_2 + 1)), (by first | rfl | (simp; done) | (simp only [← hji11] <;> (first | rfl | simp)) | (simp [*]; done)), (by first | rfl | (simp; done) | (simp [*]; done)), H', ⟨by have := HK1.out; have := HK2.out; omega⟩, ⟨by repeat (first | (with_reducible first | exact HB.out | apply below_alloc | apply pw_below_drewN | apply below_drew1) | exact HB.out)⟩⟩
                  · rw [if_neg c6] at H
                    exact absurd H (by simp)
                · rw [if_neg c5] at H
                  have c5b0 : decide (x6_2 < ((rd_L1 l0 x5_1).length : Int)) = false := decide_eq_false c5
                  clear c5
                  have H' := Aside0.mk H
                  clear H
                  have p272 : 0 ≤ (x5_1 : Int) := of_decide_eq_true (by first | (with_reducible assumption) | assumption)
                  have q272 : x5_1 < (l0.length : Int) := of_decide_eq_true (by first | (with_reducible assumption) | assumption)
                  obtain ⟨ad272, A272_0, c272_0, e272, hx272_0, hl272_0, hi272_0⟩ := at_L1 HR0.out x5_1 p272 q272
                  cases e272
                  replace hx272_0 := (HB.out.cell (World.block_lt_of_cell? w _ hx272_0)).trans hx272_0
                  have HR272_0 := Aside0.mk hi272_0
                  have HC272_0 := Aside0.mk hl272_0
                  clear hi272_0 hl272_0
                  replace p272 := eq_true p272
                  replace q272 := eq_true q272
                  go_wp2
                  repeat (go_quiet (fail); try go_wp2)
                  go_roundg k2
                  case measure => have := HK1.out; have := HK2.out; omega
                  case rel => exact ⟨(x4_2), (wrap64 (x5_1 + 1)), (by first | rfl | (simp; done) | (simp [*]; done)), (by first | rfl | (simp; done) | (simp [*]; done)), H', ⟨by have := HK1.out; have := HK2.out; omega⟩, ⟨by repeat (first | (with_reducible first | exact HB.out | apply below_alloc | apply pw_below_drewN | apply below_drew1) | exact HB.out)⟩⟩
              · rw [if_neg c4] at H
                exact absurd H (by simp)
            · rw [if_neg c3] at H
              exact absurd H (by simp)
      · rw [if_neg c2] at H
        have c2b0 : decide (x5_1 < (l0.length : Int)) = false := decide_eq_false c2
        clear c2
        replace H := Option.bind_eq_some_iff.mp H
        obtain ⟨t283, A120, H⟩ := H
        replace H : (if 6 + t283.size ≤ 9223372036854775807 then (if ((⟨#[112, 32, 99, 110, 102, 32]⟩ : ByteArray) ++ t283).size + 1 ≤ 9223372036854775807 then ((plaitref19_dec.f k1 (l0.length : Int)).bind fun t284 => (if (((⟨#[112, 32, 99, 110, 102, 32]⟩ : ByteArray) ++ t283) ++ (⟨#[32]⟩ : ByteArray)).size + t284.size ≤ 9223372036854775807 then (if ((((⟨#[112, 32, 99, 110, 102, 32]⟩ : ByteArray) ++ t283) ++ (⟨#[32]⟩ : ByteArray)) ++ t284).size + 1 ≤ 9223372036854775807 then (plaitref19_Print.l2 k1 l0 (((((⟨#[112, 32, 99, 110, 102, 32]⟩ : ByteArray) ++ t283) ++ (⟨#[32]⟩ : ByteArray)) ++ t284) ++ (⟨#[10]⟩ : ByteArray)) 0) else (none)) else (none))) else (none)) else (none)) = some (r1, r2) := H
        have A12 := Aside0.mk A120
        clear A120
        by_cases c13 : 6 + t283.size ≤ 9223372036854775807
        · rw [if_pos c13] at H
          have c13b0 := eq_true c13
          have c13b1 : decide (6 + t283.size ≤ 9223372036854775807) = true := decide_eq_true c13
          try have c13b2 : (9223372036854775807 < 6 + t283.size) = False := eq_false (Nat.not_lt.2 c13)
          by_cases c14 : ((⟨#[112, 32, 99, 110, 102, 32]⟩ : ByteArray) ++ t283).size + 1 ≤ 9223372036854775807
          · rw [if_pos c14] at H
            have c14b0 := eq_true c14
            have c14b1 : decide (((⟨#[112, 32, 99, 110, 102, 32]⟩ : ByteArray) ++ t283).size + 1 ≤ 9223372036854775807) = true := decide_eq_true c14
            try have c14b2 : (9223372036854775807 < ((⟨#[112, 32, 99, 110, 102, 32]⟩ : ByteArray) ++ t283).size + 1) = False := eq_false (Nat.not_lt.2 c14)
            replace H := Option.bind_eq_some_iff.mp H
            obtain ⟨t284, A150, H⟩ := H
            replace H : (if (((⟨#[112, 32, 99, 110, 102, 32]⟩ : ByteArray) ++ t283) ++ (⟨#[32]⟩ : ByteArray)).size + t284.size ≤ 9223372036854775807 then (if ((((⟨#[112, 32, 99, 110, 102, 32]⟩ : ByteArray) ++ t283) ++ (⟨#[32]⟩ : ByteArray)) ++ t284).size + 1 ≤ 9223372036854775807 then (plaitref19_Print.l2 k1 l0 (((((⟨#[112, 32, 99, 110, 102, 32]⟩ : ByteArray) ++ t283) ++ (⟨#[32]⟩ : ByteArray)) ++ t284) ++ (⟨#[10]⟩ : ByteArray)) 0) else (none)) else (none)) = some (r1, r2) := H
            have A15 := Aside0.mk A150
            clear A150
            by_cases c16 : (((⟨#[112, 32, 99, 110, 102, 32]⟩ : ByteArray) ++ t283) ++ (⟨#[32]⟩ : ByteArray)).size + t284.size ≤ 9223372036854775807
            · rw [if_pos c16] at H
              have c16b0 := eq_true c16
              have c16b1 : decide ((((⟨#[112, 32, 99, 110, 102, 32]⟩ : ByteArray) ++ t283) ++ (⟨#[32]⟩ : ByteArray)).size + t284.size ≤ 9223372036854775807) = true := decide_eq_true c16
              try have c16b2 : (9223372036854775807 < (((⟨#[112, 32, 99, 110, 102, 32]⟩ : ByteArray) ++ t283) ++ (⟨#[32]⟩ : ByteArray)).size + t284.size) = False := eq_false (Nat.not_lt.2 c16)
              by_cases c17 : ((((⟨#[112, 32, 99, 110, 102, 32]⟩ : ByteArray) ++ t283) ++ (⟨#[32]⟩ : ByteArray)) ++ t284).size + 1 ≤ 9223372036854775807
              · rw [if_pos c17] at H
                have c17b0 := eq_true c17
                have c17b1 : decide (((((⟨#[112, 32, 99, 110, 102, 32]⟩ : ByteArray) ++ t283) ++ (⟨#[32]⟩ : ByteArray)) ++ t284).size + 1 ≤ 9223372036854775807) = true := decide_eq_true c17
                try have c17b2 : (9223372036854775807 < ((((⟨#[112, 32, 99, 110, 102, 32]⟩ : ByteArray) ++ t283) ++ (⟨#[32]⟩ : ByteArray)) ++ t284).size + 1) = False := eq_false (Nat.not_lt.2 c17)
                have cxs : ((⟨#[112, 32, 99, 110, 102, 32]⟩ : ByteArray) ++ t283 ++ (⟨#[32]⟩ : ByteArray) ++ t284).size + 1 = 6 + t283.size + 1 + t284.size + 1 := by simp only [ByteArray.size_append]; rfl
                have cx1 : (9223372036854775807 < 6 + t283.size + 1) = False := eq_false (by omega)
                have cx2 : (9223372036854775807 < 6 + t283.size + 1 + t284.size) = False := eq_false (by omega)
                have cx3 : (9223372036854775807 < 6 + t283.size + 1 + t284.size + 1) = False := eq_false (by omega)
                clear cxs
                have H' := Aside0.mk H
                clear H
                go_wp2_with (first | (go_at_call 56; (with_reducible refine (plaitref19_dec.calls k1 x4_1 t283 _ A12.out).mono ?_); rintro e w18 ⟨rfl, hb⟩; have n0_ := Aside0.mk (below_step (by repeat (first | (with_reducible first | exact HB.out | apply below_alloc | apply pw_below_drewN | apply below_drew1) | exact HB.out)) hb); clear HB; have HB := n0_; clear n0_; (try clear hb); (try clear hb2); (try clear hk); (try clear hi)) | (go_at_call 56; (with_reducible refine (plaitref19_dec.calls k1 (l0.length : Int) t284 _ A15.out).mono ?_); rintro e w19 ⟨rfl, hb⟩; have n0_ := Aside0.mk (below_step (by repeat (first | (with_reducible first | exact HB.out | apply below_alloc | apply pw_below_drewN | apply below_drew1) | exact HB.out)) hb); clear HB; have HB := n0_; clear n0_; (try clear hb); (try clear hb2); (try clear hk); (try clear hi)))
                repeat (go_quiet (first | (go_at_call 56; (with_reducible refine (plaitref19_dec.calls k1 x4_1 t283 _ A12.out).mono ?_); rintro e w18 ⟨rfl, hb⟩; have n0_ := Aside0.mk (below_step (by repeat (first | (with_reducible first | exact HB.out | apply below_alloc | apply pw_below_drewN | apply below_drew1) | exact HB.out)) hb); clear HB; have HB := n0_; clear n0_; (try clear hb); (try clear hb2); (try clear hk); (try clear hi)) | (go_at_call 56; (with_reducible refine (plaitref19_dec.calls k1 (l0.length : Int) t284 _ A15.out).mono ?_); rintro e w19 ⟨rfl, hb⟩; have n0_ := Aside0.mk (below_step (by repeat (first | (with_reducible first | exact HB.out | apply below_alloc | apply pw_below_drewN | apply below_drew1) | exact HB.out)) hb); clear HB; have HB := n0_; clear n0_; (try clear hb); (try clear hb2); (try clear hk); (try clear hi))); try go_wp2_with (first | (go_at_call 56; (with_reducible refine (plaitref19_dec.calls k1 x4_1 t283 _ A12.out).mono ?_); rintro e w18 ⟨rfl, hb⟩; have n0_ := Aside0.mk (below_step (by repeat (first | (with_reducible first | exact HB.out | apply below_alloc | apply pw_below_drewN | apply below_drew1) | exact HB.out)) hb); clear HB; have HB := n0_; clear n0_; (try clear hb); (try clear hb2); (try clear hk); (try clear hi)) | (go_at_call 56; (with_reducible refine (plaitref19_dec.calls k1 (l0.length : Int) t284 _ A15.out).mono ?_); rintro e w19 ⟨rfl, hb⟩; have n0_ := Aside0.mk (below_step (by repeat (first | (with_reducible first | exact HB.out | apply below_alloc | apply pw_below_drewN | apply below_drew1) | exact HB.out)) hb); clear HB; have HB := n0_; clear n0_; (try clear hb); (try clear hb2); (try clear hk); (try clear hi))))
                go_loopg [7, 8] k1 (fun kq v7 v8 w' => ∃ (x7_2 : ByteArray) (x8_2 : Int), v7 = .string x7_2 ∧ v8 = .int .i64 x8_2 ∧ Aside0 (plaitref19_Print.l2 kq l0 x7_2 x8_2 = some (r1, r2)) ∧ Aside0 (kq ≤ k1) ∧ Aside0 (Below w.heap.size w w'))
                case atStart => exact ⟨(((((⟨#[112, 32, 99, 110, 102, 32]⟩ : ByteArray) ++ t283) ++ (⟨#[32]⟩ : ByteArray)) ++ t284) ++ (⟨#[10]⟩ : ByteArray)), (0), (by first | rfl | (simp; done) | (simp [*]; done)), (by first | rfl | (simp; done) | (simp [*]; done)), H', ⟨Nat.le_refl _⟩, ⟨by repeat (first | (with_reducible first | exact HB.out | apply below_alloc | apply pw_below_drewN | apply below_drew1) | exact HB.out)⟩⟩
                case round =>
                  clear H'
                  try clear c1
                  try clear c2
                  try clear c2b0
                  try clear p2
                  try clear q2
                  try clear hx2
                  try clear c3
                  try clear c3b0
                  try clear c4
                  try clear c4b0
                  try clear c5
                  try clear c5b0
                  try clear c6
                  try clear c6b0
                  try clear p6
                  try clear c7
                  try clear c7b0
                  try clear c7b1
                  try clear c8
                  try clear c8b0
                  try clear c9
                  try clear c9b0
                  try clear c13
                  try clear c13b0
                  try clear c13b1
                  try clear c13b2
                  try clear c14
                  try clear c14b0
                  try clear c14b1
                  try clear c14b2
                  try clear c16
                  try clear c16b0
                  try clear c16b1
                  try clear c16b2
                  try clear c17
                  try clear c17b0
                  try clear c17b1
                  try clear c17b2
                  try clear hx272_0
                  try clear hx273_0
                  try clear hx274_0
                  try clear hx275_0
                  try clear hx276_0
                  try clear hx277_0
                  try clear hx278_0
                  try clear hx279_0
                  try clear hx280_0
                  try clear hx281_0
                  try clear hx282_0
                  try clear p2
                  try clear p272
                  try clear p273
                  try clear p274
                  try clear p275
                  try clear p276
                  try clear p277
                  try clear p278
                  try clear p279
                  try clear p280
                  try clear p281
                  try clear p282
                  try clear q272
                  try clear q273
                  try clear q274
                  try clear q275
                  try clear q276
                  try clear q277
                  try clear q278
                  try clear q279
                  try clear q280
                  try clear q281
                  try clear q282
                  obtain ⟨x7_2, x8_2, rfl, rfl, HA, HK2, HB⟩ := hrel
                  cases gk with
                  | zero => exact absurd HA.out (by simp [plaitref19_Print.l2])
                  | succ k2 =>
                    have H := HA.out
                    clear HA
                    simp only [plaitref19_Print.l2] at H
                    by_cases c20 : x8_2 < (l0.length : Int)
                    · rw [if_pos c20] at H
                      have c20b0 : decide (x8_2 < (l0.length : Int)) = true := decide_eq_true c20
                      clear c20
                      have H' := Aside0.mk H
                      clear H
                      go_wp2
                      repeat (go_quiet (fail); try go_wp2)
                      go_loopg [7, 9] k2 (fun kq v7 v9 w' => ∃ (x7_3 : ByteArray) (x9_3 : Int), v7 = .string x7_3 ∧ v9 = .int .i64 x9_3 ∧ Aside0 (plaitref19_Print.l3 kq l0 x7_3 x8_2 x9_3 = some (r1, r2)) ∧ Aside0 (kq ≤ k2) ∧ Aside0 (Below w.heap.size w w'))
                      case atStart => exact ⟨(x7_2), (0), (by first | rfl | (simp; done) | (simp [*]; done)), (by first | rfl | (simp; done) | (simp [*]; done)), H', ⟨Nat.le_refl _⟩, ⟨by repeat (first | (with_reducible first | exact HB.out | apply below_alloc | apply pw_below_drewN | apply below_drew1) | exact HB.out)⟩⟩
                      case round =>
                        clear H'
                        try clear c1
                        try clear c2
                        try clear c2b0
                        try clear p2
                        try clear q2
                        try clear hx2
                        try clear c3
                        try clear c3b0
                        try clear c4
                        try clear c4b0
                        try clear c5
                        try clear c5b0
                        try clear c6
                        try clear c6b0
                        try clear p6
                        try clear c7
                        try clear c7b0
                        try clear c7b1
                        try clear c8
                        try clear c8b0
                        try clear c9
                        try clear c9b0
                        try clear c13
                        try clear c13b0
                        try clear c13b1
                        try clear c13b2
                        try clear c14
                        try clear c14b0
                        try clear c14b1
                        try clear c14b2
                        try clear c16
                        try clear c16b0
                        try clear c16b1
                        try clear c16b2
                        try clear c17
                        try clear c17b0
                        try clear c17b1
                        try clear c17b2
                        try clear c20
                        try clear c20b0
                        try clear hx272_0
                        try clear hx273_0
                        try clear hx274_0
                        try clear hx275_0
                        try clear hx276_0
                        try clear hx277_0
                        try clear hx278_0
                        try clear hx279_0
                        try clear hx280_0
                        try clear hx281_0
                        try clear hx282_0
                        try clear p2
                        try clear p272
                        try clear p273
                        try clear p274
                        try clear p275
                        try clear p276
                        try clear p277
                        try clear p278
                        try clear p279
                        try clear p280
                        try clear p281
                        try clear p282
                        try clear p6
                        try clear q2
                        try clear q272
                        try clear q273
                        try clear q274
                        try clear q275
                        try clear q276
                        try clear q277
                        try clear q278
                        try clear q279
                        try clear q280
                        try clear q281
                        try clear q282
                        obtain ⟨x7_3, x9_3, rfl, rfl, HA, HK3, HB⟩ := hrel
                        cases gk with
                        | zero => exact absurd HA.out (by simp [plaitref19_Print.l3])
                        | succ k3 =>
                          have H := HA.out
                          clear HA
                          simp only [plaitref19_Print.l3] at H
                          by_cases c21 : 0 ≤ x8_2
                          · rw [if_pos c21] at H
                            have c21b0 : decide (0 ≤ x8_2) = true := decide_eq_true c21
                            clear c21
                            by_cases c22 : x8_2 < (l0.length : Int)
                            · rw [if_pos c22] at H
                              have c22b0 : decide (x8_2 < (l0.length : Int)) = true := decide_eq_true c22
                              clear c22
                              by_cases c23 : x9_3 < ((rd_L1 l0 x8_2).length : Int)
                              · rw [if_pos c23] at H
                                have c23b0 : decide (x9_3 < ((rd_L1 l0 x8_2).length : Int)) = true := decide_eq_true c23
                                clear c23
                                by_cases c24 : 0 ≤ x9_3
                                · rw [if_pos c24] at H
                                  have c24b0 : decide (0 ≤ x9_3) = true := decide_eq_true c24
                                  clear c24
                                  replace H := Option.bind_eq_some_iff.mp H
                                  obtain ⟨t288, A250, H⟩ := H
                                  replace H : (if x7_3.size + t288.size ≤ 9223372036854775807 then (if (x7_3 ++ t288).size + 1 ≤ 9223372036854775807 then (plaitref19_Print.l3 k3 l0 ((x7_3 ++ t288) ++ (⟨#[32]⟩ : ByteArray)) x8_2 (wrap64 (x9_3 + 1))) else (none)) else (none)) = some (r1, r2) := H
                                  have A25 := Aside0.mk A250
                                  clear A250
                                  by_cases c26 : x7_3.size + t288.size ≤ 9223372036854775807
                                  · rw [if_pos c26] at H
                                    have c26b0 := eq_true c26
                                    have c26b1 : decide (x7_3.size + t288.size ≤ 9223372036854775807) = true := decide_eq_true c26
                                    try have c26b2 : (9223372036854775807 < x7_3.size + t288.size) = False := eq_false (Nat.not_lt.2 c26)
                                    by_cases c27 : (x7_3 ++ t288).size + 1 ≤ 9223372036854775807
                                    · rw [if_pos c27] at H
                                      have c27b0 := eq_true c27
                                      have c27b1 : decide ((x7_3 ++ t288).size + 1 ≤ 9223372036854775807) = true := decide_eq_true c27
                                      try have c27b2 : (9223372036854775807 < (x7_3 ++ t288).size + 1) = False := eq_false (Nat.not_lt.2 c27)
                                      have H' := Aside0.mk H
                                      clear H
                                      have p285 : 0 ≤ (x8_2 : Int) := of_decide_eq_true (by first | (with_reducible assumption) | assumption)
                                      have q285 : x8_2 < (l0.length : Int) := of_decide_eq_true (by first | (with_reducible assumption) | assumption)
                                      obtain ⟨ad285, A285_0, c285_0, e285, hx285_0, hl285_0, hi285_0⟩ := at_L1 HR0.out x8_2 p285 q285
                                      cases e285
                                      replace hx285_0 := (HB.out.cell (World.block_lt_of_cell? w _ hx285_0)).trans hx285_0
                                      have HR285_0 := Aside0.mk hi285_0
                                      have HC285_0 := Aside0.mk hl285_0
                                      clear hi285_0 hl285_0
                                      replace p285 := eq_true p285
                                      replace q285 := eq_true q285
                                      have p286 : 0 ≤ (x8_2 : Int) := of_decide_eq_true (by first | (with_reducible assumption) | assumption)
                                      have q286 : x8_2 < (l0.length : Int) := of_decide_eq_true (by first | (with_reducible assumption) | assumption)
                                      obtain ⟨ad286, A286_0, c286_0, e286, hx286_0, hl286_0, hi286_0⟩ := at_L1 HR0.out x8_2 p286 q286
                                      obtain rfl : ad285 = ad286 := (by injection e286)
                                      replace hx286_0 := (HB.out.cell (World.block_lt_of_cell? w _ hx286_0)).trans hx286_0
                                      have HR286_0 := Aside0.mk hi286_0
                                      have HC286_0 := Aside0.mk hl286_0
                                      clear hi286_0 hl286_0
                                      replace p286 := eq_true p286
                                      replace q286 := eq_true q286
                                      have ea_ := Option.some.inj (hx285_0.symm.trans hx286_0)
                                      injection ea_ with ea_ en_ ec_
                                      subst ea_
                                      subst ec_
                                      clear en_
                                      have p287 : 0 ≤ (x9_3 : Int) := of_decide_eq_true (by first | (with_reducible assumption) | assumption)
                                      have q287 : x9_3 < ((rd_L1 l0 x8_2).length : Int) := of_decide_eq_true (by first | (with_reducible assumption) | assumption)
                                      obtain ⟨ad287, e287, hx287_0⟩ := Kd.at_int HR286_0.out x9_3 p287 q287
                                      cases e287
                                      replace hx287_0 := (HB.out.cell (World.block_lt_of_cell? w _ hx287_0)).trans hx287_0
                                      replace p287 := eq_true p287
                                      replace q287 := eq_true q287
                                      have cy1 : (9223372036854775807 < x7_3.size + t288.size + 1) = False := eq_false (by have cq := c27; rw [ByteArray.size_append] at cq; omega)
                                      go_wp2_with (first | (go_at_call 56; (with_reducible refine (plaitref19_dec.calls k3 (rd (rd_L1 l0 x8_2) x9_3) t288 _ A25.out).mono ?_); rintro e w28 ⟨rfl, hb⟩; have n0_ := Aside0.mk (below_step (by repeat (first | (with_reducible first | exact HB.out | apply below_alloc | apply pw_below_drewN | apply below_drew1) | exact HB.out)) hb); clear HB; have HB := n0_; clear n0_; (try clear hb); (try clear hb2); (try clear hk); (try clear hi)))
                                      repeat (go_quiet (first | (go_at_call 56; (with_reducible refine (plaitref19_dec.calls k3 (rd (rd_L1 l0 x8_2) x9_3) t288 _ A25.out).mono ?_); rintro e w28 ⟨rfl, hb⟩; have n0_ := Aside0.mk (below_step (by repeat (first | (with_reducible first | exact HB.out | apply below_alloc | apply pw_below_drewN | apply below_drew1) | exact HB.out)) hb); clear HB; have HB := n0_; clear n0_; (try clear hb); (try clear hb2); (try clear hk); (try clear hi))); try go_wp2_with (first | (go_at_call 56; (with_reducible refine (plaitref19_dec.calls k3 (rd (rd_L1 l0 x8_2) x9_3) t288 _ A25.out).mono ?_); rintro e w28 ⟨rfl, hb⟩; have n0_ := Aside0.mk (below_step (by repeat (first | (with_reducible first | exact HB.out | apply below_alloc | apply pw_below_drewN | apply below_drew1) | exact HB.out)) hb); clear HB; have HB := n0_; clear n0_; (try clear hb); (try clear hb2); (try clear hk); (try clear hi))))
                                      go_roundg k3
                                      case measure => have := HK1.out; have := HK2.out; have := HK3.out; omega
                                      case rel => exact ⟨((x7_3 ++ t288) ++ (⟨#[32]⟩ : ByteArray)), (wrap64 (x9_3 + 1)), (by first | rfl | (simp; done) | (simp [*]; done)), (by first | rfl | (simp; done) | (simp [*]; done)), H', ⟨by have := HK1.out; have := HK2.out; have := HK3.out; omega⟩, ⟨by repeat (first | (with_reducible first | exact HB.out | apply below_alloc | apply pw_below_drewN | apply below_drew1) | exact HB.out)⟩⟩
                                    · rw [if_neg c27] at H
                                      exact absurd H (by simp)
                                  · rw [if_neg c26] at H
                                    exact absurd H (by simp)
                                · rw [if_neg c24] at H
                                  exact absurd H (by simp)
                              · rw [if_neg c23] at H
                                have c23b0 : decide (x9_3 < ((rd_L1 l0 x8_2).length : Int)) = false := decide_eq_false c23
                                clear c23
                                by_cases c29 : x7_3.size + 2 ≤ 9223372036854775807
                                · rw [if_pos c29] at H
                                  have c29b0 := eq_true c29
                                  have c29b1 : decide (x7_3.size + 2 ≤ 9223372036854775807) = true := decide_eq_true c29
                                  try have c29b2 : (9223372036854775807 < x7_3.size + 2) = False := eq_false (Nat.not_lt.2 c29)
                                  by_cases c30 : ((x7_3 ++ (⟨#[48, 10]⟩ : ByteArray)).size : Int) > 65536
                                  · rw [if_pos c30] at H
                                    have c30b0 : decide (65536 < ((x7_3 ++ (⟨#[48, 10]⟩ : ByteArray)).size : Int)) = true := decide_eq_true c30
                                    have cz0 : (65536 < (x7_3.size : Int) + 2) = True := eq_true (by rw [ByteArray.size_append, show (⟨#[48, 10]⟩ : ByteArray).size = 2 from rfl] at c30; omega)
                                    clear c30b0 c30 c29b0 c29b1
                                    simp only [Option.some.injEq, Prod.mk.injEq] at H
                                    obtain ⟨rfl, rfl⟩ := H
                                    have p285 : 0 ≤ (x8_2 : Int) := of_decide_eq_true (by first | (with_reducible assumption) | assumption)
                                    have q285 : x8_2 < (l0.length : Int) := of_decide_eq_true (by first | (with_reducible assumption) | assumption)
                                    obtain ⟨ad285, A285_0, c285_0, e285, hx285_0, hl285_0, hi285_0⟩ := at_L1 HR0.out x8_2 p285 q285
                                    cases e285
                                    replace hx285_0 := (HB.out.cell (World.block_lt_of_cell? w _ hx285_0)).trans hx285_0
                                    have HR285_0 := Aside0.mk hi285_0
                                    have HC285_0 := Aside0.mk hl285_0
                                    clear hi285_0 hl285_0
                                    replace p285 := eq_true p285
                                    replace q285 := eq_true q285
                                    go_wp2
                                    repeat (go_quiet (fail); try go_wp2)
                                    go_ret2
                                    exact ⟨by first | rfl | (simp [errW_none, errW_some] <;> rfl) | (simp [*, errW_none, errW_some] <;> rfl), by repeat (first | (with_reducible first | exact HB.out | apply below_alloc | apply pw_below_drewN | apply below_drew1) | exact HB.out)⟩
                                  · rw [if_neg c30] at H
                                    have c30b0 : decide (65536 < ((x7_3 ++ (⟨#[48, 10]⟩ : ByteArray)).size : Int)) = false := decide_eq_false c30
                                    have cz0 : (65536 < (x7_3.size : Int) + 2) = False := eq_false (by rw [ByteArray.size_append, show (⟨#[48, 10]⟩ : ByteArray).size = 2 from rfl] at c30; omega)
                                    clear c30b0 c30 c29b0 c29b1
                                    have H' := Aside0.mk H
                                    clear H
                                    have p285 : 0 ≤ (x8_2 : Int) := of_decide_eq_true (by first | (with_reducible assumption) | assumption)
                                    have q285 : x8_2 < (l0.length : Int) := of_decide_eq_true (by first | (with_reducible assumption) | assumption)
                                    obtain ⟨ad285, A285_0, c285_0, e285, hx285_0, hl285_0, hi285_0⟩ := at_L1 HR0.out x8_2 p285 q285
                                    cases e285
                                    replace hx285_0 := (HB.out.cell (World.block_lt_of_cell? w _ hx285_0)).trans hx285_0
                                    have HR285_0 := Aside0.mk hi285_0
                                    have HC285_0 := Aside0.mk hl285_0
                                    clear hi285_0 hl285_0
                                    replace p285 := eq_true p285
                                    replace q285 := eq_true q285
                                    go_wp2
                                    repeat (go_quiet (fail); try go_wp2)
                                    go_roundg k3
                                    case measure => have := HK1.out; have := HK2.out; have := HK3.out; omega
                                    case rel => exact ⟨(x7_3 ++ (⟨#[48, 10]⟩ : ByteArray)), (wrap64 (x8_2 + 1)), (by first | rfl | (simp; done) | (simp [*]; done)), (by first | rfl | (simp; done) | (simp [*]; done)), H', ⟨by have := HK1.out; have := HK2.out; have := HK3.out; omega⟩, ⟨by repeat (first | (with_reducible first | exact HB.out | apply below_alloc | apply pw_below_drewN | apply below_drew1) | exact HB.out)⟩⟩
                                · rw [if_neg c29] at H
                                  exact absurd H (by simp)
                            · rw [if_neg c22] at H
                              exact absurd H (by simp)
                          · rw [if_neg c21] at H
                            exact absurd H (by simp)
                    · rw [if_neg c20] at H
                      have c20b0 : decide (x8_2 < (l0.length : Int)) = false := decide_eq_false c20
                      clear c20
                      simp only [Option.some.injEq, Prod.mk.injEq] at H
                      obtain ⟨rfl, rfl⟩ := H
                      go_wp2
                      repeat (go_quiet (fail); try go_wp2)
                      go_ret2
                      exact ⟨by first | rfl | (simp [errW_none, errW_some] <;> rfl) | (simp [*, errW_none, errW_some] <;> rfl), by repeat (first | (with_reducible first | exact HB.out | apply below_alloc | apply pw_below_drewN | apply below_drew1) | exact HB.out)⟩
              · rw [if_neg c17] at H
                exact absurd H (by simp)
            · rw [if_neg c16] at H
              exact absurd H (by simp)
          · rw [if_neg c14] at H
            exact absurd H (by simp)
        · rw [if_neg c13] at H
          exact absurd H (by simp)
end Go.Proofs.YthhnhbpmpdminaaGreatDoor.PDimacsPrint
