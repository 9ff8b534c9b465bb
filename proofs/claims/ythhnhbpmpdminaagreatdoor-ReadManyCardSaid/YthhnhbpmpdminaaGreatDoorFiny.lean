/-
An element laid into the last open list, told of memory alone. Conditions: none but what memory holds.
-/
import Derived.Test.YthhnhbpmpdminaaGreatDoorLay0
namespace Go.Proofs.YthhnhbpmpdminaaGreatDoor
set_option maxRecDepth 4096
open Go.RowKit

theorem modify_comm {α : Type} (h : Array α) (i j : Nat) (f g : α → α) (hij : i ≠ j) : (h.modify i f).modify j g = (h.modify j g).modify i f := by
  apply Array.ext
  · simp
  · intro k h1 h2
    simp only [Array.getElem_modify]
    by_cases e1 : i = k <;> by_cases e2 : j = k <;> simp [e1, e2]
    exact absurd (e1.trans e2.symm) hij
theorem setCell_comm (w : World) (p q : Addr) (u v : Value) (h : p.block ≠ q.block) : (w.setCell p u).setCell q v = (w.setCell q v).setCell p u := by
  unfold World.setCell
  simp only
  rw [modify_comm _ _ _ _ _ h]

def Fin (W W2 : World) (base : Nat) (vo : Value) (Ls : List (List Sx)) (vb : Value) (m : Nat) (bs : List Value) : Prop :=
  (∃ vs S, Stk W2 base vo Ls vs S) ∧ W2.ownsRow base 3 1 vb m bs ∧ Below base W W2

section
variable {W W' w1 : World} {base bo capo b1 cap1 m : Nat} {Ls : List (List Sx)} {L : List Sx} {vs : List Value} {S : Nat → Nat → Prop} {v : Value} {cs c : List Value} {x : Sx} {T : Nat → Prop} {vb : Value} {bs : List Value}

theorem fin_one {n : Nat} (hn : Ls.length = n) (hst : Stk W base (.slice (some ⟨bo, 0, none⟩) (n + 1) capo) (Ls ++ [L]) vs S) (hbo : base ≤ bo)
    (how : W.ownsRow base 49 3 v L.length cs) (hels : Els W (fun k => S n k ∧ v.ownBlock ≠ some k) L cs) (hvS : ∀ k, v.ownBlock = some k → S n k)
    (hx : RT W T x c) (hT : ∀ k, T k → base ≤ k ∧ (∃ l, Cells W k 49 l) ∧ ∀ i, i < n + 1 → ¬ S i k)
    (hW : Mod (fun _ => False) W W') (hg1 : W'.grownBy w1 v.ownBlock)
    (hown1 : w1.ownsRow base 49 3 (.slice (some ⟨b1, 0, none⟩) (L.length + 1) cap1) (L.length + 1) (cs ++ c))
    (hat : (Value.slice (some ⟨b1, 0, none⟩) (L.length + 1) cap1).ownBlock = v.ownBlock ∨ ∃ b, (Value.slice (some ⟨b1, 0, none⟩) (L.length + 1) cap1).ownBlock = some b ∧ W'.heap.size ≤ b)
    (hbs : W.ownsRow base 3 1 vb m bs) (hbase : base ≤ W.heap.size) :
    Fin W (w1.setCell ⟨bo, n, none⟩ (.slice (some ⟨b1, 0, none⟩) (L.length + 1) cap1)) base (.slice (some ⟨bo, 0, none⟩) (n + 1) capo) (Ls ++ [L ++ [x]]) vb m bs := by
  subst hn
  obtain ⟨lo, hlo⟩ := own_cells hst.row bo rfl
  have hvbo : v.ownBlock ≠ some bo := own_ne_cells how hlo (by decide)
  have hlo1 := (hlo.keep hW (fun q => q)).grown hg1 hvbo
  obtain ⟨l1, hl1⟩ := own_cells hown1 b1 rfl
  have hv1 : b1 ≠ bo := by rintro rfl; exact absurd (hl1.ty hlo1).1 (by decide)
  have hmW : Mod (fun k => v.ownBlock = some k ∨ k = bo) W W' := hW.mono (fun _ _ q => q.elim)
  have hm2 : Mod (fun k => v.ownBlock = some k ∨ k = bo) W (w1.setCell ⟨bo, Ls.length, none⟩ (.slice (some ⟨b1, 0, none⟩) (L.length + 1) cap1)) :=
    (hmW.grown hg1 (fun k hk => .inl (.inl hk))).setCell (.inl (.inr rfl)) _
  have hown2 := own_keep (S := fun k => k = bo) hown1 (Mod.setCell (p := ⟨bo, Ls.length, none⟩) (Mod.refl (fun k => k = bo) w1) (.inl rfl) (.slice (some ⟨b1, 0, none⟩) (L.length + 1) cap1)) (by rintro k hk rfl; simp [Value.ownBlock] at hk; exact hv1 hk)
  have hrow1 := own_keep (S := fun k => v.ownBlock = some k) hst.row ((Mod.mono hW (fun _ _ q => q.elim)).grown hg1 (fun k hk => .inl hk)) (by intro k hk e; simp [Value.ownBlock] at hk; exact hvbo (hk ▸ e))
  rw [show (Ls ++ [L]).length = Ls.length + 1 by simp] at hrow1
  have hst2 := Stk.lays hst hels hvS hx hT hm2 (by
    rcases hat with hat | ⟨b, hb, hle⟩
    · exact .inl hat
    · exact .inr ⟨b, hb, Nat.le_trans hW.size hle⟩) hown2 (hrow1.stored Ls.length _).1
  refine ⟨⟨_, _, hst2⟩, own_keep hbs hm2 (fun k hk e => ?_), hm2.belowB (fun k hk => ?_) hbase⟩
  · obtain ⟨lb, hlb⟩ := own_cells hbs k hk
    rcases e with e | rfl
    · exact own_ne_cells how hlb (by decide) e
    · exact absurd (hlb.ty hlo).1 (by decide)
  · rcases hk with e | rfl
    · exact own_base_le how k e
    · exact hbo

theorem fin_cells {c0 c1 c2 z0 z1 z2 : Value} {n : Nat} (hn : Ls.length = n) (hst : Stk W base (.slice (some ⟨bo, 0, none⟩) (n + 1) capo) (Ls ++ [L]) vs S) (hbo : base ≤ bo)
    (how : W.ownsRow base 49 3 v L.length cs) (hels : Els W (fun k => S n k ∧ v.ownBlock ≠ some k) L cs) (hvS : ∀ k, v.ownBlock = some k → S n k)
    (hx : RT W T x [c0, c1, c2]) (hT : ∀ k, T k → base ≤ k ∧ (∃ l, Cells W k 49 l) ∧ ∀ i, i < n + 1 → ¬ S i k)
    (hW : Mod (fun _ => False) W W') (hg1 : W'.grownBy w1 v.ownBlock)
    (hown1 : w1.ownsRow base 49 3 (.slice (some ⟨b1, 0, none⟩) (L.length + 1) cap1) (L.length + 1) (cs ++ [z0, z1, z2]))
    (hat : (Value.slice (some ⟨b1, 0, none⟩) (L.length + 1) cap1).ownBlock = v.ownBlock ∨ ∃ b, (Value.slice (some ⟨b1, 0, none⟩) (L.length + 1) cap1).ownBlock = some b ∧ W'.heap.size ≤ b)
    (hbs : W.ownsRow base 3 1 vb m bs) (hbase : base ≤ W.heap.size) :
    Fin W ((((w1.setCell ⟨b1, L.length * 3, none⟩ c0).setCell ⟨b1, L.length * 3 + 1, none⟩ c1).setCell ⟨b1, L.length * 3 + 2, none⟩ c2).setCell ⟨bo, n, none⟩ (.slice (some ⟨b1, 0, none⟩) (L.length + 1) cap1)) base (.slice (some ⟨bo, 0, none⟩) (n + 1) capo) (Ls ++ [L ++ [x]]) vb m bs := by
  subst hn
  obtain ⟨lo, hlo⟩ := own_cells hst.row bo rfl
  have hvbo : v.ownBlock ≠ some bo := own_ne_cells how hlo (by decide)
  have hlo1 := (hlo.keep hW (fun q => q)).grown hg1 hvbo
  obtain ⟨l1, hl1⟩ := own_cells hown1 b1 rfl
  have hv1 : b1 ≠ bo := by rintro rfl; exact absurd (hl1.ty hlo1).1 (by decide)
  have hcl : cs.length = L.length * 3 := how.1
  have hg2 : W'.grownBy (((w1.setCell ⟨b1, L.length * 3, none⟩ c0).setCell ⟨b1, L.length * 3 + 1, none⟩ c1).setCell ⟨b1, L.length * 3 + 2, none⟩ c2) v.ownBlock := by
    have hb : v.ownBlock = some b1 ∨ W'.heap.size ≤ b1 := by
      rcases hat with hat | ⟨b, hb, hle⟩
      · exact .inl hat.symm
      · simp [Value.ownBlock] at hb; subst hb; exact .inr hle
    refine ⟨hg1.os, hg1.tape, hg1.output, ?_, fun k hk hne => ?_⟩
    · simpa [World.setCell] using hg1.size
    · have hkb : k ≠ b1 := by
        rintro rfl
        rcases hb with hb | hb
        · exact hne hb.symm
        · omega
      rw [Below.heap_setCell _ _ _ _ hkb, Below.heap_setCell _ _ _ _ hkb, Below.heap_setCell _ _ _ _ hkb]
      exact hg1.block k hk hne
  have hown2 := ((hown1.stored (L.length * 3) c0).1.stored (L.length * 3 + 1) c1).1.stored (L.length * 3 + 2) c2
  have hown3 := hown2.1
  rw [show (((cs ++ [z0, z1, z2]).set (L.length * 3) c0).set (L.length * 3 + 1) c1).set (L.length * 3 + 2) c2 = cs ++ [c0, c1, c2] by rw [← hcl]; simp] at hown3
  exact fin_one rfl hst hbo how hels hvS hx hT hW hg2 hown3 hat hbs hbase

theorem fin_three {c0 c1 c2 z0 z1 z2 : Value} {n : Nat} (hn : Ls.length = n) (hst : Stk W base (.slice (some ⟨bo, 0, none⟩) (n + 1) capo) (Ls ++ [L]) vs S) (hbo : base ≤ bo)
    (how : W.ownsRow base 49 3 v L.length cs) (hels : Els W (fun k => S n k ∧ v.ownBlock ≠ some k) L cs) (hvS : ∀ k, v.ownBlock = some k → S n k)
    (hx : RT W T x [c0, c1, c2]) (hT : ∀ k, T k → base ≤ k ∧ (∃ l, Cells W k 49 l) ∧ ∀ i, i < n + 1 → ¬ S i k)
    (hW : Mod (fun _ => False) W W') (hg1 : W'.grownBy w1 v.ownBlock)
    (hown1 : w1.ownsRow base 49 3 (.slice (some ⟨b1, 0, none⟩) (L.length + 1) cap1) (L.length + 1) (cs ++ [z0, z1, z2]))
    (hat : (Value.slice (some ⟨b1, 0, none⟩) (L.length + 1) cap1).ownBlock = v.ownBlock ∨ ∃ b, (Value.slice (some ⟨b1, 0, none⟩) (L.length + 1) cap1).ownBlock = some b ∧ W'.heap.size ≤ b)
    (hbs : W.ownsRow base 3 1 vb m bs) (hbase : base ≤ W.heap.size) :
    Fin W ((((w1.setCell ⟨bo, n, none⟩ (.slice (some ⟨b1, 0, none⟩) (L.length + 1) cap1)).setCell ⟨b1, L.length * 3, none⟩ c0).setCell ⟨b1, L.length * 3 + 1, none⟩ c1).setCell ⟨b1, L.length * 3 + 2, none⟩ c2) base (.slice (some ⟨bo, 0, none⟩) (n + 1) capo) (Ls ++ [L ++ [x]]) vb m bs := by
  have := fin_cells hn hst hbo how hels hvS hx hT hW hg1 hown1 hat hbs hbase
  subst hn
  obtain ⟨lo, hlo⟩ := own_cells hst.row bo rfl
  have hvbo : v.ownBlock ≠ some bo := own_ne_cells how hlo (by decide)
  have hlo1 := (hlo.keep hW (fun q => q)).grown hg1 hvbo
  obtain ⟨l1, hl1⟩ := own_cells hown1 b1 rfl
  have hv1 : b1 ≠ bo := by rintro rfl; exact absurd (hl1.ty hlo1).1 (by decide)
  rw [setCell_comm _ _ ⟨bo, Ls.length, none⟩ _ _ hv1, setCell_comm _ _ ⟨bo, Ls.length, none⟩ _ _ hv1, setCell_comm _ _ ⟨bo, Ls.length, none⟩ _ _ hv1] at this
  exact this
end
end Go.Proofs.YthhnhbpmpdminaaGreatDoor
