/-
Several texts as one: Gam Inv.
-/
import Derived.Test.YthhnhbpmpdminaaGreatDoorXQ
import Derived.Laws.Externs
import Derived.Lib.Mul64
import Derived.Shelf.Bits.Mul64
import Derived.Test.YthhnhbpmpdminaaGreatDoorXE
import Derived.RegionTactic
/-
bv.number: sum and product. Conditions: numbers of 128 bits.
-/
namespace Go.Proofs.YthhnhbpmpdminaaGreatDoor
set_option maxRecDepth 4096
set_option maxHeartbeats 8000000
set_option linter.unusedSimpArgs false
set_option linter.unusedVariables false
set_option linter.unnecessarySimpa false
open Go.RowKit Go.Proofs.YthhnhbpmpdminaaGreatDoorW.PrintWords Go.Proofs.YthhnhbpmpdminaaGreatDoorW.PrintMore PReadTwice
theorem Add64_run (x y c : Nat) (hc : c ≤ 1) (w : World) : (callFunc 271 #[.int .u64 (x : Int), .int .u64 (y : Int), .int .u64 (c : Int)]).run Tryz.prog w = .ok (.value (.tuple #[.int .u64 (((x + y + c) % 18446744073709551616 : Nat) : Int), .int .u64 (((x + y + c) / 18446744073709551616 : Nat) : Int)])) w := by
  rw [run_callFunc_extern Tryz.func271 (by kernel_rfl) (by kernel_rfl) (by kernel_rfl) (e := add64Entry) (by kernel_rfl), run_add64 x y c (by omega) (by omega) (by omega) (by omega)]
  simp only [Result.andThen]
  congr 5 <;> omega
theorem add_any (m n : Nat) (hm : m < 2 ^ 128) (hn : n < 2 ^ 128) (W : World) : Calls Tryz.prog 261 #[numV2 m, numV2 n] W fun e W' => e = .returned (numV2 ((m + n) % 2 ^ 128)) ∧ Below W.heap.size W W' := by
  obtain ⟨x0, hx0⟩ : ∃ v, m % 18446744073709551616 = v := ⟨_, rfl⟩
  obtain ⟨x1, hx1⟩ : ∃ v, m / 18446744073709551616 = v := ⟨_, rfl⟩
  obtain ⟨y0, hy0⟩ : ∃ v, n % 18446744073709551616 = v := ⟨_, rfl⟩
  obtain ⟨y1, hy1⟩ : ∃ v, n / 18446744073709551616 = v := ⟨_, rfl⟩
  obtain ⟨s0, hs0⟩ : ∃ v, (x0 + y0 + 0) % 18446744073709551616 = v := ⟨_, rfl⟩
  obtain ⟨c0, hc0⟩ : ∃ v, (x0 + y0 + 0) / 18446744073709551616 = v := ⟨_, rfl⟩
  obtain ⟨s1, hs1⟩ : ∃ v, (x1 + y1 + c0) % 18446744073709551616 = v := ⟨_, rfl⟩
  obtain ⟨c1, hc1⟩ : ∃ v, (x1 + y1 + c0) / 18446744073709551616 = v := ⟨_, rfl⟩
  have hcl : c0 ≤ 1 := by omega
  have a1 := fun w => Add64_run x0 y0 0 (by omega) w
  have a2 := fun w => Add64_run x1 y1 c0 hcl w
  rw [hs0, hc0] at a1
  rw [hs1, hc1] at a2
  have HR : Aside0 (numV2 ((m + n) % 2 ^ 128) = .agg #[.int .u64 (s0 : Int), .int .u64 (s1 : Int)]) := ⟨by
    rw [show (2 : Nat) ^ 128 = 340282366920938463463374607431768211456 by decide] at *
    unfold numV2 nlo nhi
    have e1 : (m + n) % 340282366920938463463374607431768211456 % 18446744073709551616 = s0 := by omega
    have e2 : (m + n) % 340282366920938463463374607431768211456 / 18446744073709551616 = s1 := by omega
    rw [e1, e2]⟩
  rw [HR.out]
  unfold numV2 nlo nhi
  rw [hx0, hx1, hy0, hy1]
  have hc := Cells.new ((W.alloc (.cells #[.int .u64 (x0 : Int), .int .u64 (x1 : Int)] 285)).alloc (.cells #[.int .u64 (y0 : Int), .int .u64 (y1 : Int)] 285)) 285 [.int .u64 0, .int .u64 0]
  have hb := (((Below.refl _ W).alloc (Nat.le_refl _) (.cells #[.int .u64 (x0 : Int), .int .u64 (x1 : Int)] 285)).alloc (by simp) (.cells #[.int .u64 (y0 : Int), .int .u64 (y1 : Int)] 285)).alloc (by simp; omega) (.cells #[.int .u64 0, .int .u64 0] 285)
  have HC := Aside0.mk hc
  have HB := Aside0.mk hb
  clear hx0 hx1 hy0 hy1 hs0 hc0 hs1 hc1 hcl hc hb HR
  rw [Int.natCast_zero] at a1
  go_enter Tryz.func261, Tryz.ntmps261
  go_wp2_with go_in
  have HF : Cells (((W.alloc (.cells #[.int .u64 (x0 : Int), .int .u64 (x1 : Int)] 285)).alloc (.cells #[.int .u64 (y0 : Int), .int .u64 (y1 : Int)] 285)).alloc (.cells #[.int .u64 (s0 : Int), .int .u64 (s1 : Int)] 285)) (W.heap.size + 1 + 1) 285 [.int .u64 (s0 : Int), .int .u64 (s1 : Int)] := by
    have := Cells.new ((W.alloc (.cells #[.int .u64 (x0 : Int), .int .u64 (x1 : Int)] 285)).alloc (.cells #[.int .u64 (y0 : Int), .int .u64 (y1 : Int)] 285)) 285 [.int .u64 (s0 : Int), .int .u64 (s1 : Int)]
    simpa using this
  exact bodyPost_ret (results_cell_row rfl _ _ (W.heap.size + 1 + 1) 285 #[.int .u64 (s0 : Int), .int .u64 (s1 : Int)] (0, 0) _ rfl HF Tryz.underlying285 rfl (by kernel_rfl)) rfl ⟨rfl, (((Below.refl _ W).alloc (Nat.le_refl _) _).alloc (by simp) _).alloc (by simp; omega) _⟩
theorem Mul64_f (x : Nat) (hx : x < 18446744073709551616) : bits_Mul64.f (x : Int) 10 = some (((x * 10 / 18446744073709551616 : Nat) : Int), ((x * 10 % 18446744073709551616 : Nat) : Int)) := by
  have h1 : bits .and .u64 (x : Int) 4294967295 = ((x % 4294967296 : Nat) : Int) := Mul64.maskN x hx
  have h2 : bits .and .u64 (10 : Int) 4294967295 = 10 := by kernel_rfl
  have hm : ∀ v : Nat, v < 18446744073709551616 → bits .and .u64 (v : Int) 4294967295 = ((v % 4294967296 : Nat) : Int) := Mul64.maskN
  unfold bits_Mul64.f
  rw [h1, h2]
  simp only [Mul64.divN]
  have hx2 : x = x / 4294967296 * 4294967296 + x % 4294967296 := by omega
  have hb : x % 4294967296 < 4294967296 := by omega
  have ha : x / 4294967296 < 4294967296 := by omega
  clear h1 h2
  generalize x / 4294967296 = a at *
  generalize x % 4294967296 = b at *
  subst hx2
  obtain ⟨T, hT⟩ : ∃ T : Nat, T = a * 10 + b * 10 / 4294967296 := ⟨_, rfl⟩
  have q1 : IntKind.u64.wrap ((a : Int) * 10) = ((a * 10 : Nat) : Int) := by
    rw [show ((a : Int) * 10) = ((a * 10 : Nat) : Int) by simp]; exact Mul64.wrapN _ (by omega)
  have q2 : IntKind.u64.wrap ((b : Int) * 10) = ((b * 10 : Nat) : Int) := by
    rw [show ((b : Int) * 10) = ((b * 10 : Nat) : Int) by simp]; exact Mul64.wrapN _ (by omega)
  have e : IntKind.u64.wrap (IntKind.u64.wrap ((a : Int) * 10) + IntKind.u64.wrap ((b : Int) * 10) / 4294967296) = (T : Int) := by
    rw [q1, q2, Mul64.divN, Mul64.addN, ← hT]; exact Mul64.wrapN _ (by omega)
  have hx10 : (a * 4294967296 + b) * 10 / 18446744073709551616 = T / 4294967296 := by
    rw [show 18446744073709551616 = 4294967296 * 4294967296 from rfl, ← Nat.div_div_eq_div_mul]
    congr 1
    omega
  have z : (10 : Int) / 4294967296 = 0 := by decide
  have w0 : IntKind.u64.wrap 0 = 0 := by kernel_rfl
  rw [e, hm T (by omega), z, Int.mul_zero, Int.mul_zero, w0, Int.zero_add, Int.add_zero, Mul64.divN, Mul64.wrapN _ (by omega), Mul64.wrapN _ (by omega), Mul64.divN, Nat.div_eq_of_lt (Nat.mod_lt T (by decide)), hx10]
  have z2 : ((T / 4294967296 : Nat) : Int) + ((0 : Nat) : Int) = ((T / 4294967296 : Nat) : Int) := by simp
  rw [z2, Mul64.wrapN _ (by omega), show (((a * 4294967296 + b : Nat) : Int) * 10) = (((a * 4294967296 + b) * 10 : Nat) : Int) by simp, Mul64.wrapM]
theorem mul10_any (m : Nat) (hm : m < 2 ^ 128) (W : World) : Calls Tryz.prog 263 #[numV2 m, numV2 10] W fun e W' => e = .returned (numV2 (m * 10 % 2 ^ 128)) ∧ Below W.heap.size W W' := by
  obtain ⟨x0, hx0⟩ : ∃ v, m % 18446744073709551616 = v := ⟨_, rfl⟩
  obtain ⟨x1, hx1⟩ : ∃ v, m / 18446744073709551616 = v := ⟨_, rfl⟩
  obtain ⟨s0, hs0⟩ : ∃ v, x0 * 10 % 18446744073709551616 = v := ⟨_, rfl⟩
  obtain ⟨c0, hc0⟩ : ∃ v, x0 * 10 / 18446744073709551616 = v := ⟨_, rfl⟩
  obtain ⟨s1, hs1⟩ : ∃ v, (c0 + x1 * 10) % 18446744073709551616 = v := ⟨_, rfl⟩
  have hf := Mul64_f x0 (by omega)
  rw [hs0, hc0] at hf
  have a1 := fun w => bits_Mul64.calls (x0 : Int) 10 (c0 : Int) (s0 : Int) w hf
  have w3 : IntKind.u64.wrap (s1 : Int) = (s1 : Int) := by simp only [IntKind.wrap_u64]; omega
  have w1 : IntKind.u64.wrap (IntKind.u64.wrap ((c0 : Int) + IntKind.u64.wrap ((x1 : Int) * 10))) = (s1 : Int) := by simp only [IntKind.wrap_u64]; omega
  have w2 : IntKind.u64.wrap ((c0 : Int) + IntKind.u64.wrap ((x1 : Int) * 10)) = (s1 : Int) := by simp only [IntKind.wrap_u64]; omega
  have HR : Aside0 (numV2 (m * 10 % 2 ^ 128) = .agg #[.int .u64 (s0 : Int), .int .u64 (s1 : Int)]) := ⟨by
    rw [show (2 : Nat) ^ 128 = 340282366920938463463374607431768211456 by decide] at *
    unfold numV2 nlo nhi
    have e1 : m * 10 % 340282366920938463463374607431768211456 % 18446744073709551616 = s0 := by omega
    have e2 : m * 10 % 340282366920938463463374607431768211456 / 18446744073709551616 = s1 := by omega
    rw [e1, e2]⟩
  rw [HR.out]
  have h10 : numV2 10 = .agg #[.int .u64 10, .int .u64 0] := by kernel_rfl
  rw [h10]
  unfold numV2 nlo nhi
  rw [hx0, hx1]
  have A1 := Aside0.mk a1
  clear hx0 hx1 hs0 hc0 hs1 HR h10 hf a1
  go_enter Tryz.func263, Tryz.ntmps263
  go_wp2_with fail
  refine (A1.out _).mono ?_
  rintro e w2 ⟨rfl, hd⟩
  have c2 : Cells (((W.alloc (.cells #[.int .u64 (x0 : Int), .int .u64 (x1 : Int)] 285)).alloc (.cells #[.int .u64 10, .int .u64 0] 285)).alloc (.cells #[.int .u64 0, .int .u64 0] 285)) W.heap.size 285 [.int .u64 (x0 : Int), .int .u64 (x1 : Int)] := ((Cells.new W 285 [.int .u64 (x0 : Int), .int .u64 (x1 : Int)]).alloc _).alloc _
  have c3 : Cells (((W.alloc (.cells #[.int .u64 (x0 : Int), .int .u64 (x1 : Int)] 285)).alloc (.cells #[.int .u64 10, .int .u64 0] 285)).alloc (.cells #[.int .u64 0, .int .u64 0] 285)) (W.heap.size + 1) 285 [.int .u64 10, .int .u64 0] := by
    have := (Cells.new (W.alloc (.cells #[.int .u64 (x0 : Int), .int .u64 (x1 : Int)] 285)) 285 [.int .u64 10, .int .u64 0]).alloc (.cells #[.int .u64 0, .int .u64 0] 285)
    simpa using this
  have c4 : Cells (((W.alloc (.cells #[.int .u64 (x0 : Int), .int .u64 (x1 : Int)] 285)).alloc (.cells #[.int .u64 10, .int .u64 0] 285)).alloc (.cells #[.int .u64 0, .int .u64 0] 285)) (W.heap.size + 1 + 1) 285 [.int .u64 0, .int .u64 0] := by
    have := Cells.new ((W.alloc (.cells #[.int .u64 (x0 : Int), .int .u64 (x1 : Int)] 285)).alloc (.cells #[.int .u64 10, .int .u64 0] 285)) 285 [.int .u64 0, .int .u64 0]
    simpa using this
  have hb : Below W.heap.size W (((W.alloc (.cells #[.int .u64 (x0 : Int), .int .u64 (x1 : Int)] 285)).alloc (.cells #[.int .u64 10, .int .u64 0] 285)).alloc (.cells #[.int .u64 0, .int .u64 0] 285)) := (((Below.refl _ W).alloc (Nat.le_refl _) _).alloc (by simp) _).alloc (by simp; omega) _
  have HB2 := Aside0.mk (hb.trans (hd.below.mono hb.size))
  have C2 := Aside0.mk (c2.below hd.below)
  have C3 := Aside0.mk (c3.below hd.below)
  have C4 := Aside0.mk (c4.below hd.below)
  clear c2 c3 c4 hb hd
  have x0' := C2.out.cell 0 _ rfl
  have x1' := C2.out.cell 1 _ rfl
  have y0' := C3.out.cell 0 _ rfl
  have y1' := C3.out.cell 1 _ rfl
  have z0' := C4.out.cell 0 _ rfl
  have z1' := C4.out.cell 1 _ rfl
  have f0 := C4.out.frozen 0
  have f1 := C4.out.frozen 1
  go_wp2_with fail
  have HF := (C4.out.set 0 (.int .u64 (s0 : Int))).set 1 (.int .u64 (s1 : Int))
  have HB3 := (HB2.out.setCell (p := ⟨W.heap.size + 1 + 1, 0, none⟩) (by simp; omega) (.int .u64 (s0 : Int))).setCell (p := ⟨W.heap.size + 1 + 1, 1, none⟩) (by simp; omega) (.int .u64 (s1 : Int))
  exact bodyPost_ret (results_cell_row rfl _ _ (W.heap.size + 1 + 1) 285 #[.int .u64 (s0 : Int), .int .u64 (s1 : Int)] (0, 0) _ rfl HF Tryz.underlying285 rfl (by kernel_rfl)) rfl ⟨rfl, HB3⟩
end Go.Proofs.YthhnhbpmpdminaaGreatDoor
/-
A drawn region by an invariant over what has come up: each operation is walked once, in whatever order. Conditions: a list of what may have come up, checked.
-/
namespace Go.Proofs.YthhnhbpmpdminaaGreatDoor
set_option maxRecDepth 4096
open Go.RowKit Go.Proofs.YthhnhbpmpdminaaGreatDoorW.PrintWords Go.Proofs.YthhnhbpmpdminaaGreatDoorW.PrintLast
def cntB (l : Array Bool) : Nat := (l.toList.filter id).length
/-- What may have come up is closed; pre tells what has surely come up ahead of an operation. -/
def invOk (md : Region.Mode) (ops : Array Oper) (pre : List (List Nat)) (sts : List (Array Bool)) : Bool :=
  sts.contains (Array.replicate ops.size false) && sts.all fun l =>
    (Region.ready md ops l).all (fun i => sts.contains (l.setIfInBounds i true) && (ops[i]?).isSome && (pre.getD i []).all (fun j => l.getD j false) && !(l.getD i false) && cntB (l.setIfInBounds i true) == cntB l + 1)
    && (if Region.ready md ops l == [] then (List.range ops.size).all (fun j => l.getD j false) else cntB l < ops.size)
section
variable {P : Program} {md : Region.Mode} {ops : Array Oper} {Q : Exit → Act → World → Prop}
theorem wpAny_inv {pre : List (List Nat)} {sts : List (Array Bool)} (R : Array Bool → Act → World → Prop) (hok : invOk md ops pre sts = true)
    (hstep : ∀ (i : Nat) (o : Oper) (l : Array Bool) (a : Act) (w : World), ops[i]? = some o → (∀ j ∈ pre.getD i [], l.getD j false = true) → l.getD i false = false → R l a w →
      ∀ K : Act → World → Prop, (∀ a' w', R (l.setIfInBounds i true) a' w' → K a' w') → if Region.wanted o (yielded ops a.tmps) = true then Oper.wp P o a w K Q else K (a.put o.dst undef) w)
    (hdone : ∀ (l : Array Bool) (a : Act) (w : World), (∀ j, j < ops.size → l.getD j false = true) → R l a w → Q .normal a w) :
    ∀ (f : Nat) (l : Array Bool) (a : Act) (w : World), l ∈ sts → f + cntB l = ops.size → R l a w → wpAny P md ops Q f l a w := by
  unfold invOk at hok
  rw [Bool.and_eq_true, List.all_eq_true] at hok
  have hall := hok.2
  have key : ∀ l ∈ sts, (∀ i ∈ Region.ready md ops l, l.setIfInBounds i true ∈ sts ∧ (ops[i]?).isSome = true ∧ (∀ j ∈ pre.getD i [], l.getD j false = true) ∧ l.getD i false = false ∧ cntB (l.setIfInBounds i true) = cntB l + 1) ∧
      (Region.ready md ops l = [] → ∀ j, j < ops.size → l.getD j false = true) ∧ (Region.ready md ops l ≠ [] → cntB l < ops.size) := fun l hl => by
    have h := hall l hl
    rw [Bool.and_eq_true, List.all_eq_true] at h
    obtain ⟨h1, h2⟩ := h
    refine ⟨fun i hi => ?_, fun he j hj => ?_, fun he => ?_⟩
    · have := h1 i hi
      simp only [Bool.and_eq_true, List.all_eq_true, beq_iff_eq, Bool.not_eq_true', List.contains_iff_mem] at this
      exact ⟨this.1.1.1.1, this.1.1.1.2, this.1.1.2, this.1.2, this.2⟩
    · rw [if_pos (by simp [he]), List.all_eq_true] at h2
      exact h2 j (List.mem_range.2 hj)
    · rw [if_neg (by simpa using he)] at h2
      simpa using h2
  intro f
  induction f with
  | zero =>
    intro l a w hl hc hR
    obtain ⟨_, k2, k3⟩ := key l hl
    have he : Region.ready md ops l = [] := Classical.byContradiction fun q => by have := k3 q; omega
    exact ⟨he, hdone l a w (k2 he) hR⟩
  | succ f ih =>
    intro l a w hl hc hR
    obtain ⟨k1, k2, _⟩ := key l hl
    refine ⟨fun he => hdone l a w (k2 he) hR, fun i hi => ?_⟩
    obtain ⟨g1, g2, g3, g4, g5⟩ := k1 i hi
    obtain ⟨o, ho⟩ := Option.isSome_iff_exists.1 g2
    refine wpOp_step ho fun K hK => ?_
    exact hstep i o l a w ho g3 g4 hR K fun a' w' h' => hK a' w' (ih _ a' w' g1 (by omega) h')
theorem wp_region_inv {id : Nat} {a : Act} {w : World} (pre : List (List Nat)) (sts : List (Array Bool)) (R : Array Bool → Act → World → Prop) (hm : P.follows .mixedOrders = true) (hok : invOk .any ops pre sts = true) (h0 : cntB (Array.replicate ops.size false) = 0)
    (hR : R (Array.replicate ops.size false) a w.drew)
    (hstep : ∀ (i : Nat) (o : Oper) (l : Array Bool) (a : Act) (w : World), ops[i]? = some o → (∀ j ∈ pre.getD i [], l.getD j false = true) → l.getD i false = false → R l a w →
      ∀ K : Act → World → Prop, (∀ a' w', R (l.setIfInBounds i true) a' w' → K a' w') → if Region.wanted o (yielded ops a.tmps) = true then Oper.wp P o a w K Q else K (a.put o.dst undef) w)
    (hdone : ∀ (l : Array Bool) (a : Act) (w : World), (∀ j, j < ops.size → l.getD j false = true) → R l a w → Q .normal a w) : (Code.region id ops true).wp P Q a w :=
  wp_region_any hm (wpAny_inv R hok hstep hdone ops.size _ a w.drew (by
    unfold invOk at hok
    rw [Bool.and_eq_true] at hok
    simpa using hok.1) (by omega) hR)
end
end Go.Proofs.YthhnhbpmpdminaaGreatDoor
