/-
bv.Two: product and sum. Conditions: words of 128 bits.
-/
import Derived.Test.YthhnhbpmpdminaaGreatDoorXU
namespace Go.Proofs.YthhnhbpmpdminaaGreatDoor
set_option maxRecDepth 4096
set_option maxHeartbeats 8000000
set_option linter.unusedSimpArgs false
set_option linter.unusedVariables false
set_option linter.unnecessarySimpa false
open Go.RowKit Go.Proofs.YthhnhbpmpdminaaGreatDoorW.PrintWords Go.Proofs.YthhnhbpmpdminaaGreatDoorW.PrintMore PReadTwice
def rkSts : List (Array Bool) := [#[false, false, false, false, false, false, false, false], #[true, false, false, false, false, false, false, false], #[false, false, true, false, false, false, false, false], #[false, false, false, false, true, false, false, false], #[false, false, false, false, false, true, false, false], #[true, false, false, false, false, true, false, false], #[false, false, true, false, false, true, false, false], #[false, false, false, false, true, true, false, false], #[true, false, false, false, true, true, false, false], #[false, false, true, false, true, true, false, false], #[true, false, true, false, true, true, false, false], #[true, true, true, false, true, true, false, false], #[true, true, true, true, true, true, false, false], #[true, true, true, true, true, true, true, false], #[true, true, true, true, true, true, true, true], #[true, true, false, false, true, true, false, false], #[true, false, true, false, false, true, false, false], #[true, true, true, false, false, true, false, false], #[true, true, true, true, false, true, false, false], #[true, true, false, false, false, true, false, false], #[true, false, false, false, true, false, false, false], #[false, false, true, false, true, false, false, false], #[true, false, true, false, true, false, false, false], #[true, true, true, false, true, false, false, false], #[true, true, true, true, true, false, false, false], #[true, true, false, false, true, false, false, false], #[true, false, true, false, false, false, false, false], #[true, true, true, false, false, false, false, false], #[true, true, true, true, false, false, false, false], #[true, true, false, false, false, false, false, false]]
def rkPre : List (List Nat) := [[], [0], [], [1, 2], [], [], [0, 1, 3, 4, 5], [0, 1, 2, 3, 4, 5, 6]]
/-- What holds of reckoned's first region while its operations come up. -/
def rkR (op : Int) (m n : Nat) (W : World) (l : Array Bool) (a : Act) (w : World) : Prop := ∃ x7 x8 x17 x18 x19 x20, a = ⟨#[.int .i64 op, bitsV 128 m, bitsV 128 n, undef, .pointer (some ⟨W.heap.size, 0, none⟩), .pointer (some ⟨W.heap.size + 1, 0, none⟩), .pointer (some ⟨W.heap.size + 1 + 1, 0, none⟩), x7, x8, undef, undef, undef, undef, undef, undef, undef, undef, x17, x18, x19, x20, undef, undef, undef, undef, undef, undef, undef, undef, undef, undef, undef, undef, undef, undef, undef, undef, undef, undef, undef, undef, undef, undef, undef, undef, undef, undef, undef, undef, undef, undef, undef, undef, undef, undef, undef, undef, undef, undef, undef, undef, undef, undef, undef, undef, undef, undef, undef, undef, undef, undef, undef, undef, undef, undef, undef, undef, undef, undef, undef, undef, undef, undef, undef, undef, undef, undef, undef, undef, undef, undef, undef, undef, undef, undef, undef, undef], []⟩ ∧ Below W.heap.size W w ∧
  Cells w W.heap.size 110 [.int .i64 128, .int .u64 (nlo m), .int .u64 (nhi m)] ∧ Cells w (W.heap.size + 1) 110 [.int .i64 128, .int .u64 (nlo n), .int .u64 (nhi n)] ∧ Cells w (W.heap.size + 1 + 1) 285 [.int .u64 0, .int .u64 0] ∧
  (l.getD 0 false = true → x17 = bitsV 128 m) ∧ (l.getD 1 false = true → x18 = numV2 m) ∧ (l.getD 2 false = true → x19 = bitsV 128 n) ∧ (l.getD 3 false = true → x20 = numV2 n) ∧
  (l.getD 4 false = true → ∃ b, x7 = .pointer (some ⟨b, 0, none⟩) ∧ W.heap.size + 1 + 1 < b ∧ Cells w b 285 (if l.getD 6 false = true then [.int .u64 (nlo m), .int .u64 (nhi m)] else [.int .u64 0, .int .u64 0]) ∧ (l.getD 5 false = true → x8 ≠ x7)) ∧
  (l.getD 5 false = true → ∃ b, x8 = .pointer (some ⟨b, 0, none⟩) ∧ W.heap.size + 1 + 1 < b ∧ Cells w b 285 (if l.getD 7 false = true then [.int .u64 (nlo n), .int .u64 (nhi n)] else [.int .u64 0, .int .u64 0])) ∧ (l.getD 6 false = true → l.getD 4 false = true) ∧ (l.getD 7 false = true → l.getD 5 false = true) ∧ l.size = 8
theorem gset_ne {l : Array Bool} {i j : Nat} (h : i ≠ j) : (l.setIfInBounds i true).getD j false = l.getD j false := by
  rw [Array.getD_eq_getD_getElem?, Array.getD_eq_getD_getElem?, Array.getElem?_setIfInBounds_ne h]
theorem gset_self {l : Array Bool} {i : Nat} (h : i < l.size) : (l.setIfInBounds i true).getD i false = true := by
  rw [Array.getD_eq_getD_getElem?, Array.getElem?_setIfInBounds_self_of_lt h]; rfl
theorem bs8 (n : Nat) : bitsV 128 n = .agg #[.int .i64 128, .int .u64 (nlo n), .int .u64 (nhi n)] := rfl
theorem reckoned_any (op : Int) (R m n : Nat) (hm : m < 2 ^ 128) (hn : n < 2 ^ 128) (ho : (op = 18 ∧ R = (m + n) % 2 ^ 128) ∨ (op = 20 ∧ n = 10 ∧ R = m * 10 % 2 ^ 128)) (W : World) :
    Calls Tryz.prog 243 #[.int .i64 op, bitsV 128 m, bitsV 128 n] W fun e W' => e = .returned (numV2 R) ∧ Below W.heap.size W W' := by
  have HO := Aside0.mk ho
  have HM := Aside0.mk hm
  have HN := Aside0.mk hn
  clear ho hm hn
  go_enter Tryz.func243, Tryz.ntmps243
  go_upto_region 1 with (fail)
  refine wp_region_inv rkPre rkSts (rkR op m n W) (by kernel_rfl) (by kernel_rfl) (by kernel_rfl) ?_ ?_ ?_
  · have c4 := ((Cells.new W 110 [.int .i64 128, .int .u64 (nlo m), .int .u64 (nhi m)]).alloc (.cells #[.int .i64 128, .int .u64 (nlo n), .int .u64 (nhi n)] 110)).alloc (.cells #[.int .u64 0, .int .u64 0] 285)
    have c5 : Cells ((W.alloc (.cells #[.int .i64 128, .int .u64 (nlo m), .int .u64 (nhi m)] 110)).alloc (.cells #[.int .i64 128, .int .u64 (nlo n), .int .u64 (nhi n)] 110)) (W.heap.size + 1) 110 [.int .i64 128, .int .u64 (nlo n), .int .u64 (nhi n)] := by
      have := Cells.new (W.alloc (.cells #[.int .i64 128, .int .u64 (nlo m), .int .u64 (nhi m)] 110)) 110 [.int .i64 128, .int .u64 (nlo n), .int .u64 (nhi n)]
      simpa using this
    have c6 : Cells (((W.alloc (.cells #[.int .i64 128, .int .u64 (nlo m), .int .u64 (nhi m)] 110)).alloc (.cells #[.int .i64 128, .int .u64 (nlo n), .int .u64 (nhi n)] 110)).alloc (.cells #[.int .u64 0, .int .u64 0] 285)) (W.heap.size + 1 + 1) 285 [.int .u64 0, .int .u64 0] := by
      have := Cells.new ((W.alloc (.cells #[.int .i64 128, .int .u64 (nlo m), .int .u64 (nhi m)] 110)).alloc (.cells #[.int .i64 128, .int .u64 (nlo n), .int .u64 (nhi n)] 110)) 285 [.int .u64 0, .int .u64 0]
      simpa using this
    have hr : ∀ j, (Array.replicate 8 false).getD j false = true → False := by
      intro j h
      rw [Array.getD_eq_getD_getElem?] at h
      simp only [Array.getElem?_replicate] at h
      split at h <;> cases h
    refine ⟨undef, undef, undef, undef, undef, undef, rfl, ?_⟩
    exact ⟨((((Below.refl _ W).alloc (Nat.le_refl _) _).alloc (by simp) _).alloc (by simp; omega) _).drew, c4, (c5.alloc _), c6, fun q => (hr _ q).elim, fun q => (hr _ q).elim, fun q => (hr _ q).elim, fun q => (hr _ q).elim, fun q => (hr _ q).elim, fun q => (hr _ q).elim, fun q => (hr _ q).elim, fun q => (hr _ q).elim, by simp⟩
  · intro i o l a w hio hpre hi hR K hK
    have hi8 : i < 8 := (Array.getElem?_eq_some_iff.1 hio).1
    obtain rfl | rfl | rfl | rfl | rfl | rfl | rfl | rfl : i = 0 ∨ i = 1 ∨ i = 2 ∨ i = 3 ∨ i = 4 ∨ i = 5 ∨ i = 6 ∨ i = 7 := by omega
    · obtain rfl := Option.some.inj hio
      obtain ⟨x7, x8, x17, x18, x19, x20, rfl, hb, c4, c5, c6, h0, h1, h2, h3, h4, h5, h6, h7, h8⟩ := hR
      have q0 := c4.cell 0 _ rfl
      have q1 := c4.cell 1 _ rfl
      have q2 := c4.cell 2 _ rfl
      go_simp
      refine hK _ _ ⟨x7, x8, _, x18, x19, x20, rfl, hb, c4, c5, c6, fun _ => rfl, ?_, ?_, ?_, ?_, ?_, ?_, ?_, by rw [Array.size_setIfInBounds]; exact h8⟩
      · rw [gset_ne (by decide)]; exact h1
      · rw [gset_ne (by decide)]; exact h2
      · rw [gset_ne (by decide)]; exact h3
      · rw [gset_ne (by decide), gset_ne (by decide), gset_ne (by decide)]; exact h4
      · rw [gset_ne (by decide), gset_ne (by decide)]; exact h5
      · rw [gset_ne (by decide), gset_ne (by decide)]; exact h6
      · rw [gset_ne (by decide), gset_ne (by decide)]; exact h7
    · obtain rfl := Option.some.inj hio
      obtain ⟨x7, x8, x17, x18, x19, x20, rfl, hb, c4, c5, c6, h0, h1, h2, h3, h4, h5, h6, h7, h8⟩ := hR
      obtain rfl := h0 (hpre 0 (by decide))
      rw [bs8 m]
      go_simp
      refine (of_any _ _ _ w).mono ?_
      rintro e w1 ⟨rfl, hB1⟩
      refine hK _ _ ⟨x7, x8, _, _, x19, x20, rfl, hb.trans (hB1.mono hb.size), c4.below hB1, c5.below hB1, c6.below hB1, fun _ => rfl, fun _ => rfl, ?_, ?_, ?_, ?_, ?_, ?_, by rw [Array.size_setIfInBounds]; exact h8⟩
      · rw [gset_ne (by decide)]; exact h2
      · rw [gset_ne (by decide)]; exact h3
      · rw [gset_ne (by decide), gset_ne (by decide), gset_ne (by decide)]
        exact fun q => by obtain ⟨b, e1, e2, e3, e4⟩ := h4 q; exact ⟨b, e1, e2, e3.below hB1, e4⟩
      · rw [gset_ne (by decide), gset_ne (by decide)]
        exact fun q => by obtain ⟨b, e1, e2, e3⟩ := h5 q; exact ⟨b, e1, e2, e3.below hB1⟩
      · rw [gset_ne (by decide), gset_ne (by decide)]; exact h6
      · rw [gset_ne (by decide), gset_ne (by decide)]; exact h7
    · obtain rfl := Option.some.inj hio
      obtain ⟨x7, x8, x17, x18, x19, x20, rfl, hb, c4, c5, c6, h0, h1, h2, h3, h4, h5, h6, h7, h8⟩ := hR
      have q0 := c5.cell 0 _ rfl
      have q1 := c5.cell 1 _ rfl
      have q2 := c5.cell 2 _ rfl
      go_simp
      refine hK _ _ ⟨x7, x8, x17, x18, _, x20, rfl, hb, c4, c5, c6, ?_, ?_, fun _ => rfl, ?_, ?_, ?_, ?_, ?_, by rw [Array.size_setIfInBounds]; exact h8⟩
      · rw [gset_ne (by decide)]; exact h0
      · rw [gset_ne (by decide)]; exact h1
      · rw [gset_ne (by decide)]; exact h3
      · rw [gset_ne (by decide), gset_ne (by decide), gset_ne (by decide)]; exact h4
      · rw [gset_ne (by decide), gset_ne (by decide)]; exact h5
      · rw [gset_ne (by decide), gset_ne (by decide)]; exact h6
      · rw [gset_ne (by decide), gset_ne (by decide)]; exact h7
    · obtain rfl := Option.some.inj hio
      obtain ⟨x7, x8, x17, x18, x19, x20, rfl, hb, c4, c5, c6, h0, h1, h2, h3, h4, h5, h6, h7, h8⟩ := hR
      obtain rfl := h2 (hpre 2 (by decide))
      rw [bs8 n]
      go_simp
      refine (of_any _ _ _ w).mono ?_
      rintro e w1 ⟨rfl, hB1⟩
      refine hK _ _ ⟨x7, x8, x17, x18, _, _, rfl, hb.trans (hB1.mono hb.size), c4.below hB1, c5.below hB1, c6.below hB1, ?_, ?_, fun _ => rfl, fun _ => rfl, ?_, ?_, ?_, ?_, by rw [Array.size_setIfInBounds]; exact h8⟩
      · rw [gset_ne (by decide)]; exact h0
      · rw [gset_ne (by decide)]; exact h1
      · rw [gset_ne (by decide), gset_ne (by decide), gset_ne (by decide)]
        exact fun q => by obtain ⟨b, e1, e2, e3, e4⟩ := h4 q; exact ⟨b, e1, e2, e3.below hB1, e4⟩
      · rw [gset_ne (by decide), gset_ne (by decide)]
        exact fun q => by obtain ⟨b, e1, e2, e3⟩ := h5 q; exact ⟨b, e1, e2, e3.below hB1⟩
      · rw [gset_ne (by decide), gset_ne (by decide)]; exact h6
      · rw [gset_ne (by decide), gset_ne (by decide)]; exact h7
    · obtain rfl := Option.some.inj hio
      obtain ⟨x7, x8, x17, x18, x19, x20, rfl, hb, c4, c5, c6, h0, h1, h2, h3, h4, h5, h6, h7, h8⟩ := hR
      have h60 : l.getD 6 false = false := by cases hq : l.getD 6 false with
        | false => rfl
        | true => rw [h6 hq] at hi; cases hi
      go_simp
      refine hK _ _ ⟨_, x8, x17, x18, x19, x20, rfl, hb.alloc hb.size _, c4.alloc _, c5.alloc _, c6.alloc _, ?_, ?_, ?_, ?_, fun _ => ⟨w.heap.size, rfl, c6.lt, ?_, ?_⟩, ?_, ?_, ?_, by rw [Array.size_setIfInBounds]; exact h8⟩
      · rw [gset_ne (by decide)]; exact h0
      · rw [gset_ne (by decide)]; exact h1
      · rw [gset_ne (by decide)]; exact h2
      · rw [gset_ne (by decide)]; exact h3
      · rw [gset_ne (by decide), h60]; exact Cells.new w _ _
      · rw [gset_ne (by decide)]
        intro q
        obtain ⟨b, e1, e2, e3⟩ := h5 q
        rw [e1]
        intro e
        simp only [Value.pointer.injEq, Option.some.injEq, Addr.mk.injEq, and_true] at e
        have := e3.lt
        omega
      · rw [gset_ne (by decide), gset_ne (by decide)]
        exact fun q => by obtain ⟨b, e1, e2, e3⟩ := h5 q; exact ⟨b, e1, e2, e3.alloc _⟩
      · rw [gset_ne (by decide), h60]; intro q; cases q
      · rw [gset_ne (by decide), gset_ne (by decide)]; exact h7
    · obtain rfl := Option.some.inj hio
      obtain ⟨x7, x8, x17, x18, x19, x20, rfl, hb, c4, c5, c6, h0, h1, h2, h3, h4, h5, h6, h7, h8⟩ := hR
      have h70 : l.getD 7 false = false := by cases hq : l.getD 7 false with
        | false => rfl
        | true => rw [h7 hq] at hi; cases hi
      go_simp
      refine hK _ _ ⟨x7, _, x17, x18, x19, x20, rfl, hb.alloc hb.size _, c4.alloc _, c5.alloc _, c6.alloc _, ?_, ?_, ?_, ?_, ?_, fun _ => ⟨w.heap.size, rfl, c6.lt, ?_⟩, ?_, ?_, by rw [Array.size_setIfInBounds]; exact h8⟩
      · rw [gset_ne (by decide)]; exact h0
      · rw [gset_ne (by decide)]; exact h1
      · rw [gset_ne (by decide)]; exact h2
      · rw [gset_ne (by decide)]; exact h3
      · rw [gset_ne (by decide), gset_ne (by decide)]
        intro q
        obtain ⟨b, e1, e2, e3, e4⟩ := h4 q
        refine ⟨b, e1, e2, e3.alloc _, fun _ e => ?_⟩
        rw [e1] at e
        simp only [Value.pointer.injEq, Option.some.injEq, Addr.mk.injEq, and_true] at e
        have := e3.lt
        omega
      · rw [gset_ne (by decide), h70]; exact Cells.new w _ _
      · rw [gset_ne (by decide), gset_ne (by decide)]; exact h6
      · rw [gset_ne (by decide), h70]; intro q; cases q
    · obtain rfl := Option.some.inj hio
      obtain ⟨x7, x8, x17, x18, x19, x20, rfl, hb, c4, c5, c6, h0, h1, h2, h3, h4, h5, h6, h7, h8⟩ := hR
      obtain ⟨b, rfl, e2, e3, e4⟩ := h4 (hpre 4 (by decide))
      obtain rfl := h1 (hpre 1 (by decide))
      rw [if_neg (by rw [hi]; simp)] at e3
      have y0 := e3.cell 0 _ rfl
      have y1 := e3.cell 1 _ rfl
      have f0 := e3.frozen 0
      have f1 := e3.frozen 1
      rw [show numV2 m = .agg #[.int .u64 (nlo m), .int .u64 (nhi m)] from rfl]
      go_simp
      refine hK _ _ ⟨_, x8, x17, _, x19, x20, rfl, (hb.setCell (p := ⟨b, 0, none⟩) (by simp; omega) _).setCell (p := ⟨b, 1, none⟩) (by simp; omega) _, (c4.far (p := ⟨b, 0, none⟩) (by simp; omega) _).far (p := ⟨b, 1, none⟩) (by simp; omega) _, (c5.far (p := ⟨b, 0, none⟩) (by simp; omega) _).far (p := ⟨b, 1, none⟩) (by simp; omega) _, (c6.far (p := ⟨b, 0, none⟩) (by simp; omega) _).far (p := ⟨b, 1, none⟩) (by simp; omega) _, ?_, fun _ => rfl, ?_, ?_, fun _ => ⟨b, rfl, e2, ?_, ?_⟩, ?_, fun _ => ?_, ?_, by rw [Array.size_setIfInBounds]; exact h8⟩
      · rw [gset_ne (by decide)]; exact h0
      · rw [gset_ne (by decide)]; exact h2
      · rw [gset_ne (by decide)]; exact h3
      · rw [gset_self (by omega), if_pos rfl]
        exact (e3.set 0 (.int .u64 (nlo m))).set 1 (.int .u64 (nhi m))
      · rw [gset_ne (by decide)]; exact e4
      · rw [gset_ne (by decide), gset_ne (by decide)]
        intro q
        obtain ⟨b2, g1, g2, g3⟩ := h5 q
        have hne : b2 ≠ b := fun z => e4 q (by rw [g1, z])
        exact ⟨b2, g1, g2, (g3.far (p := ⟨b, 0, none⟩) hne _).far (p := ⟨b, 1, none⟩) hne _⟩
      · rw [gset_ne (by decide)]; exact hpre 4 (by decide)
      · rw [gset_ne (by decide), gset_ne (by decide)]; exact h7
    · obtain rfl := Option.some.inj hio
      obtain ⟨x7, x8, x17, x18, x19, x20, rfl, hb, c4, c5, c6, h0, h1, h2, h3, h4, h5, h6, h7, h8⟩ := hR
      obtain ⟨b, rfl, e2, e3⟩ := h5 (hpre 5 (by decide))
      obtain rfl := h3 (hpre 3 (by decide))
      rw [if_neg (by rw [hi]; simp)] at e3
      have y0 := e3.cell 0 _ rfl
      have y1 := e3.cell 1 _ rfl
      have f0 := e3.frozen 0
      have f1 := e3.frozen 1
      rw [show numV2 n = .agg #[.int .u64 (nlo n), .int .u64 (nhi n)] from rfl]
      go_simp
      refine hK _ _ ⟨x7, _, x17, x18, x19, _, rfl, (hb.setCell (p := ⟨b, 0, none⟩) (by simp; omega) _).setCell (p := ⟨b, 1, none⟩) (by simp; omega) _, (c4.far (p := ⟨b, 0, none⟩) (by simp; omega) _).far (p := ⟨b, 1, none⟩) (by simp; omega) _, (c5.far (p := ⟨b, 0, none⟩) (by simp; omega) _).far (p := ⟨b, 1, none⟩) (by simp; omega) _, (c6.far (p := ⟨b, 0, none⟩) (by simp; omega) _).far (p := ⟨b, 1, none⟩) (by simp; omega) _, ?_, ?_, ?_, fun _ => rfl, ?_, fun _ => ⟨b, rfl, e2, ?_⟩, ?_, fun _ => ?_, by rw [Array.size_setIfInBounds]; exact h8⟩
      · rw [gset_ne (by decide)]; exact h0
      · rw [gset_ne (by decide)]; exact h1
      · rw [gset_ne (by decide)]; exact h2
      · rw [gset_ne (by decide), gset_ne (by decide), gset_ne (by decide)]
        intro q
        obtain ⟨b2, g1, g2, g3, g4⟩ := h4 q
        have hne : b2 ≠ b := fun z => g4 (hpre 5 (by decide)) (by rw [g1, z])
        exact ⟨b2, g1, g2, (g3.far (p := ⟨b, 0, none⟩) hne _).far (p := ⟨b, 1, none⟩) hne _, g4⟩
      · rw [gset_self (by omega), if_pos rfl]
        exact (e3.set 0 (.int .u64 (nlo n))).set 1 (.int .u64 (nhi n))
      · rw [gset_ne (by decide), gset_ne (by decide)]; exact h6
      · rw [gset_ne (by decide)]; exact hpre 5 (by decide)
  · intro l a w hall hR
    obtain ⟨x7, x8, x17, x18, x19, x20, rfl, hb, c4, c5, c6, h0, h1, h2, h3, h4, h5, h6, h7, h8⟩ := hR
    obtain ⟨b7, rfl, e2, e3, e4⟩ := h4 (hall 4 (by decide))
    obtain ⟨b8, rfl, g2, g3⟩ := h5 (hall 5 (by decide))
    rw [if_pos (hall 6 (by decide))] at e3
    rw [if_pos (hall 7 (by decide))] at g3
    have HB := Aside0.mk hb
    have C6 := Aside0.mk c6
    have y0 := e3.cell 0 _ rfl
    have y1 := e3.cell 1 _ rfl
    have z0 := g3.cell 0 _ rfl
    have z1 := g3.cell 1 _ rfl
    clear hall hb c4 c5 c6 h0 h1 h2 h3 h4 h5 h6 h7 h8 e2 e3 e4 g2 g3
    rcases HO.out with ⟨rfl, hR⟩ | ⟨rfl, hn, hR⟩
    · have HRR := Aside0.mk hR
      have HA := fun W => add_any m n HM.out HN.out W
      rw [← hR] at HA
      have HA := Aside0.mk HA
      clear hR HO
      go_wp2_with fail
      refine (HA.out _).mono ?_
      rintro e w2 ⟨rfl, hB⟩
      have HB2 := Aside0.mk (HB.out.trans (hB.mono HB.out.size))
      have C2 := Aside0.mk (C6.out.below hB)
      have q0 := C2.out.cell 0 _ rfl
      have q1 := C2.out.cell 1 _ rfl
      have f0 := C2.out.frozen 0
      have f1 := C2.out.frozen 1
      clear hB y0 y1 z0 z1
      unfold numV2
      go_wp2_with fail
      have HF := (C2.out.set 0 (.int .u64 (nlo R))).set 1 (.int .u64 (nhi R))
      have HB3 := (HB2.out.setCell (p := ⟨W.heap.size + 1 + 1, 0, none⟩) (by simp; omega) (.int .u64 (nlo R))).setCell (p := ⟨W.heap.size + 1 + 1, 1, none⟩) (by simp; omega) (.int .u64 (nhi R))
      exact bodyPost_ret (results_cell_row rfl _ _ (W.heap.size + 1 + 1) 285 #[.int .u64 (nlo R), .int .u64 (nhi R)] (0, 0) _ rfl HF Tryz.underlying285 rfl (by kernel_rfl)) rfl ⟨rfl, HB3⟩
    · have HRR := Aside0.mk hR
      have HA := fun W => mul10_any m HM.out W
      rw [← hR, ← hn] at HA
      have HA := Aside0.mk HA
      clear hR HO hn
      go_wp2_with fail
      refine (HA.out _).mono ?_
      rintro e w2 ⟨rfl, hB⟩
      have HB2 := Aside0.mk (HB.out.trans (hB.mono HB.out.size))
      have C2 := Aside0.mk (C6.out.below hB)
      have q0 := C2.out.cell 0 _ rfl
      have q1 := C2.out.cell 1 _ rfl
      have f0 := C2.out.frozen 0
      have f1 := C2.out.frozen 1
      clear hB y0 y1 z0 z1
      unfold numV2
      go_wp2_with fail
      have HF := (C2.out.set 0 (.int .u64 (nlo R))).set 1 (.int .u64 (nhi R))
      have HB3 := (HB2.out.setCell (p := ⟨W.heap.size + 1 + 1, 0, none⟩) (by simp; omega) (.int .u64 (nlo R))).setCell (p := ⟨W.heap.size + 1 + 1, 1, none⟩) (by simp; omega) (.int .u64 (nhi R))
      exact bodyPost_ret (results_cell_row rfl _ _ (W.heap.size + 1 + 1) 285 #[.int .u64 (nlo R), .int .u64 (nhi R)] (0, 0) _ rfl HF Tryz.underlying285 rfl (by kernel_rfl)) rfl ⟨rfl, HB3⟩
end Go.Proofs.YthhnhbpmpdminaaGreatDoor
