/-
plaitref2.Parse over the abstract memory: the tree as the plain reader tells it. Conditions: none.
-/
import Derived.Test.YthhnhbpmpdminaaGreatDoorAj
import Derived.Test.YthhnhbpmpdminaaGreatDoorRfpy
namespace Go.Proofs.YthhnhbpmpdminaaGreatDoor
namespace Ab
open Go.RowKit
set_option maxRecDepth 4096

/- A tree's cells. -/
mutual
def sxV : Sx → List AVal
  | ⟨wd, l, ks⟩ => [.str wd.data.toList, .bool l, match ks with
    | [] => .em
    | k :: r => .ro (r.length + 1) (sxV k ++ sxL r)]
def sxL : List Sx → List AVal
  | [] => []
  | k :: r => sxV k ++ sxL r
end
section
variable {C : Ctx} {w : World} {S : Nat → Prop}
theorem RO.append {k : Nat} : ∀ {l m : List AVal} {o : Nat}, RO C l k o → RO C m k (o + l.length) → RO C (l ++ m) k o
  | [], _, _, _, h => h
  | a :: l, m, o, h, g => by
    cases h with
    | cons _ _ _ _ u hu ha ht =>
      refine .cons _ _ _ _ u hu ha (RO.append ht ?_)
      rw [show o + 1 + l.length = o + (a :: l).length by simp; omega]
      exact g
theorem RO.ofCells {k o : Nat} {l : List AVal} {vs : List Value} (h : VRs C l vs) (hc : ∀ i u, vs[i]? = some u → C.cell k (o + i) = some u) : RO C l k o := by
  induction l generalizing o vs with
  | nil => exact .nil _ _
  | cons a l ih =>
    cases h with
    | cons _ v _ vs' ha ht =>
      refine .cons _ _ _ _ v (hc 0 v rfl) ha (ih ht fun i u hi => ?_)
      rw [show o + 1 + i = o + (i + 1) by omega]
      exact hc (i + 1) u (by simpa using hi)
theorem sxV_length (x : Sx) : (sxV x).length = 3 := by cases x; unfold sxV; rfl
theorem cell_imm (hS : ∀ k, S k → C.imm k = w.heap[k]?) {a : Addr} {u : Value} (hb : S a.block) (hs : a.spot = none) (h : w.cell? a = some u) : C.cell a.block a.off = some u := by
  unfold Ctx.cell
  rw [hS _ hb]
  unfold World.cell? at h
  cases hk : w.heap[a.block]? with
  | none => rw [hk] at h; cases h
  | some o =>
    rw [hk] at h
    cases o <;> first | (cases h; done) | (simp only [hs] at h; simpa using h)
mutual
theorem RT_VR (hS : ∀ k, S k → C.imm k = w.heap[k]?) : ∀ (x : Sx) (cs : List Value), RT w S x cs → VRs C (sxV x) cs
  | ⟨wd, l, ks⟩, cs, h => by
    unfold RT at h
    obtain ⟨A, c, rfl, h2, h3, h4, h5⟩ := h
    unfold sxV
    refine .cons _ _ _ _ (.str wd) (.cons _ _ _ _ (.bool l) (.cons _ _ _ _ ?_ .nil))
    match ks, h2, h5 with
    | [], _, _ => exact .em _ _
    | k :: r, h2, h5 =>
      have h6 := h5
      unfold RL at h6
      obtain ⟨⟨ad, cs, hA, hS1, hc, hT⟩, _⟩ := h6
      subst hA
      have hspot : ad.spot = none := by
        obtain ⟨A', c', rfl, _⟩ := RT_cells hT
        have := hc 0 _ rfl
        simp only [Nat.zero_mul, Nat.zero_add, Addr.add, if_true] at this
        cases hs : ad.spot with
        | none => rfl
        | some q =>
          unfold World.cell? at this
          split at this
          · simp [hs] at this
          · cases this
      obtain ⟨kb, off, sp⟩ := ad
      simp only at hspot
      subst hspot
      have := RL_RO hS (k :: r) kb off 0 h5
      unfold sxL at this
      rw [Nat.zero_mul, Nat.add_zero] at this
      exact .ro _ _ _ _ _ this h2
theorem RL_RO (hS : ∀ k, S k → C.imm k = w.heap[k]?) : ∀ (ks : List Sx) (kb off j : Nat), RL w S ks (some ⟨kb, off, none⟩) j → RO C (sxL ks) kb (off + j * 3)
  | [], _, _, _, _ => by unfold sxL; exact .nil _ _
  | k :: r, kb, off, j, h => by
    unfold RL at h
    obtain ⟨⟨ad, cs, hA, hS1, hc, hT⟩, hr⟩ := h
    cases hA
    unfold sxL
    refine RO.append (RO.ofCells (RT_VR hS k cs hT) fun i u hi => ?_) ?_
    · have := hc i u hi
      have e : (⟨kb, off, none⟩ : Addr).add (j * 3 + i) = ⟨kb, off + (j * 3 + i), none⟩ := by
        unfold Addr.add
        split
        · rename_i h0; rw [h0]; rfl
        · rfl
      rw [e] at this
      have := cell_imm hS (a := ⟨kb, off + (j * 3 + i), none⟩) hS1 rfl this
      rw [show off + j * 3 + i = off + (j * 3 + i) by omega]
      exact this
    · rw [sxV_length]
      have := RL_RO hS r kb off (j + 1) hr
      rw [show off + j * 3 + 3 = off + (j + 1) * 3 by omega]
      exact this
end
end

/-- All that is new is never written. -/
def Ctx.lays (C : Ctx) (W W' : World) : Ctx := { C with imm := fun k => if k < W.heap.size then C.imm k else W'.heap[k]? }
theorem R.lays {P : Program} {q : Nat → Bool} {C : Ctx} {H : AHeap} {W W' : World} (h : R P q C H W) (hB : Below W.heap.size W W') : R P q (C.lays W W') H W' ∧ C.Le (C.lays W W') := by
  have hlt : ∀ k o, C.imm k = some o → k < W.heap.size := fun k o hk => (Array.getElem?_eq_some_iff.1 (h.imm k o hk)).1
  have hle : C.Le (C.lays W W') := ⟨fun _ _ q => q, fun k o hk => by
    have := hlt k o hk
    simpa [Ctx.lays, this] using hk, rfl, rfl, rfl, rfl, rfl⟩
  refine ⟨⟨hB.os.trans h.os, hB.tape.trans h.tape, hB.output.trans h.output, fun k o hk => ?_, fun b x hb k rc hφ => ?_, h.inj, h.next, h.res⟩, hle⟩
  · by_cases hk2 : k < W.heap.size
    · have : C.imm k = some o := by simpa [Ctx.lays, hk2] using hk
      rw [hB.block k hk2]; exact h.imm k o this
    · simpa [Ctx.lays, hk2] using hk
  · have hk := h.lt hb hφ
    obtain ⟨q1, o, q2, q3⟩ := h.blk b x hb k rc hφ
    exact ⟨by simpa [Ctx.lays, hk] using q1, o, by rw [hB.block k hk]; exact q2, q3.mono hle⟩

def parseG : List AVal → AHeap → Option (AVal × AHeap) := fun args H =>
  match args with
  | [.str s] => bif Nat.ble s.length 9223372036854775807 then match parse s with
      | .ok [] => none
      | .ok (k :: r) => some (.tup [.ro (r.length + 1) (sxL (k :: r)), .int .i64 0, .int .i64 0], H)
      | .error (a, n) => some (.tup [.sl none 0 0 true, .int .i64 (Int.ofNat a), .int .i64 (Int.ofNat n)], H)
    else none
  | _ => none
theorem parse_ok {C0 : Ctx} : ExtOk Tryz.prog C0 76 parseG := by
  intro args H v H' h q C W args' h0 hR ha
  unfold parseG at h
  split at h
  · rename_i s
    cases hs : Nat.ble s.length 9223372036854775807 with
    | false => rw [hs] at h; cases h
    | true =>
      rw [hs] at h; simp only [cond_true] at h
      have hs := Nat.le_of_ble_eq_true hs
      obtain ⟨al⟩ := args'
      cases ha with
      | cons _ y _ l' hx ht =>
        cases ht
        cases hx with
        | str s =>
          have hl : s.data.toList.length = s.size := by rw [Array.length_toList]; rfl
          refine .inr ⟨enters Tryz.func76 (by kernel_rfl) (by kernel_rfl) _ _, (ref_any s W (by omega)).mono fun e W' ⟨ho, hB⟩ => ?_⟩
          obtain ⟨r1, r2⟩ := hR.lays hB
          split at h
          · cases h
          · rename_i k r hp
            simp only [Option.some.injEq, Prod.mk.injEq] at h
            obtain ⟨rfl, rfl⟩ := h
            rw [hp] at ho
            obtain ⟨A, c, rfl, h2, h3, h5⟩ := ho
            have hS : ∀ j, (W.heap.size ≤ j ∧ j < W'.heap.size) → (C.lays W W').imm j = W'.heap[j]? := fun j hj => by
              have : ¬ j < W.heap.size := by omega
              simp [Ctx.lays, this]
            have hkids := RT_VR hS ⟨⟨#[]⟩, true, k :: r⟩ _ (RT_mk ⟨⟨#[]⟩, true, k :: r⟩ h2 h3 (Nat.zero_le _) h5)
            unfold sxV at hkids
            cases hkids with
            | cons _ _ _ _ _ t1 => cases t1 with
              | cons _ _ _ _ _ t2 => cases t2 with
                | cons _ _ _ _ t3 _ =>
                  refine ⟨_, rfl, _, r2, .tup _ _ (.cons _ _ _ _ ?_ (.cons _ _ _ _ (.int _ _) (.cons _ _ _ _ (.int _ _) .nil))), r1⟩
                  unfold sxL
                  exact t3
          · rename_i a n hp
            simp only [Option.some.injEq, Prod.mk.injEq] at h
            obtain ⟨rfl, rfl⟩ := h
            rw [hp] at ho
            exact ⟨_, ho, _, r2, .tup _ _ (.cons _ _ _ _ (.slN _) (.cons _ _ _ _ (.int _ _) (.cons _ _ _ _ (.int _ _) .nil))), r1⟩
  · cases h
end Ab
end Go.Proofs.YthhnhbpmpdminaaGreatDoor
