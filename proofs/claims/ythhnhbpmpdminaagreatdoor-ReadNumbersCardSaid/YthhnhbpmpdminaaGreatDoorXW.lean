/-
Several texts as one: Finy Rwn.
-/
import Derived.Test.YthhnhbpmpdminaaGreatDoorXG
import Derived.Test.YthhnhbpmpdminaaGreatDoorXM
import Derived.Test.YthhnhbpmpdminaaGreatDoorXF
/-
An element laid into the last open list, told of memory alone. Conditions: none but what memory holds.
-/
namespace Go.Proofs.YthhnhbpmpdminaaGreatDoor
set_option maxRecDepth 4096
open Go.RowKit
theorem modify_comm {α : Type} (h : Array α) (i j : Nat) (f g : α → α) (hij : i ≠ j) : (h.modify i f).modify j g = (h.modify j g).modify i f := by
  apply Array.ext
  · simp
  · intro k h1 h2
    simp only [Array.getElem_modify]
    by_cases e1 : i = k <;> by_cases e2 : j = k <;> simp [e1, e2]
    exact absurd (e1.trans e2.symm) hij
theorem setCell_comm (w : World) (p q : Addr) (u v : Value) (h : p.block ≠ q.block) : (w.setCell p u).setCell q v = (w.setCell q v).setCell p u := by
  unfold World.setCell
  simp only
  rw [modify_comm _ _ _ _ _ h]
def Fin (W W2 : World) (base : Nat) (vo : Value) (Ls : List (List Sx)) (vb : Value) (m : Nat) (bs : List Value) : Prop :=
  (∃ vs S, Stk W2 base vo Ls vs S) ∧ W2.ownsRow base 3 1 vb m bs ∧ Below base W W2
section
variable {W W' w1 : World} {base bo capo b1 cap1 m : Nat} {Ls : List (List Sx)} {L : List Sx} {vs : List Value} {S : Nat → Nat → Prop} {v : Value} {cs c : List Value} {x : Sx} {T : Nat → Prop} {vb : Value} {bs : List Value}
theorem fin_one {n : Nat} (hn : Ls.length = n) (hst : Stk W base (.slice (some ⟨bo, 0, none⟩) (n + 1) capo) (Ls ++ [L]) vs S) (hbo : base ≤ bo)
    (how : W.ownsRow base 49 3 v L.length cs) (hels : Els W (fun k => S n k ∧ v.ownBlock ≠ some k) L cs) (hvS : ∀ k, v.ownBlock = some k → S n k)
    (hx : RT W T x c) (hT : ∀ k, T k → base ≤ k ∧ (∃ l, Cells W k 49 l) ∧ ∀ i, i < n + 1 → ¬ S i k)
    (hW : Mod (fun _ => False) W W') (hg1 : W'.grownBy w1 v.ownBlock)
    (hown1 : w1.ownsRow base 49 3 (.slice (some ⟨b1, 0, none⟩) (L.length + 1) cap1) (L.length + 1) (cs ++ c))
    (hat : (Value.slice (some ⟨b1, 0, none⟩) (L.length + 1) cap1).ownBlock = v.ownBlock ∨ ∃ b, (Value.slice (some ⟨b1, 0, none⟩) (L.length + 1) cap1).ownBlock = some b ∧ W'.heap.size ≤ b)
    (hbs : W.ownsRow base 3 1 vb m bs) (hbase : base ≤ W.heap.size) :
    Fin W (w1.setCell ⟨bo, n, none⟩ (.slice (some ⟨b1, 0, none⟩) (L.length + 1) cap1)) base (.slice (some ⟨bo, 0, none⟩) (n + 1) capo) (Ls ++ [L ++ [x]]) vb m bs := by
  subst hn
  obtain ⟨lo, hlo⟩ := own_cells hst.row bo rfl
  have hvbo : v.ownBlock ≠ some bo := own_ne_cells how hlo (by decide)
  have hlo1 := (hlo.keep hW (fun q => q)).grown hg1 hvbo
  obtain ⟨l1, hl1⟩ := own_cells hown1 b1 rfl
  have hv1 : b1 ≠ bo := by rintro rfl; exact absurd (hl1.ty hlo1).1 (by decide)
  have hmW : Mod (fun k => v.ownBlock = some k ∨ k = bo) W W' := hW.mono (fun _ _ q => q.elim)
  have hm2 : Mod (fun k => v.ownBlock = some k ∨ k = bo) W (w1.setCell ⟨bo, Ls.length, none⟩ (.slice (some ⟨b1, 0, none⟩) (L.length + 1) cap1)) :=
    (hmW.grown hg1 (fun k hk => .inl (.inl hk))).setCell (.inl (.inr rfl)) _
  have hown2 := own_keep (S := fun k => k = bo) hown1 (Mod.setCell (p := ⟨bo, Ls.length, none⟩) (Mod.refl (fun k => k = bo) w1) (.inl rfl) (.slice (some ⟨b1, 0, none⟩) (L.length + 1) cap1)) (by rintro k hk rfl; simp [Value.ownBlock] at hk; exact hv1 hk)
  have hrow1 := own_keep (S := fun k => v.ownBlock = some k) hst.row ((Mod.mono hW (fun _ _ q => q.elim)).grown hg1 (fun k hk => .inl hk)) (by intro k hk e; simp [Value.ownBlock] at hk; exact hvbo (hk ▸ e))
  rw [show (Ls ++ [L]).length = Ls.length + 1 by simp] at hrow1
  have hst2 := Stk.lays hst hels hvS hx hT hm2 (by
    rcases hat with hat | ⟨b, hb, hle⟩
    · exact .inl hat
    · exact .inr ⟨b, hb, Nat.le_trans hW.size hle⟩) hown2 (hrow1.stored Ls.length _).1
  refine ⟨⟨_, _, hst2⟩, own_keep hbs hm2 (fun k hk e => ?_), hm2.belowB (fun k hk => ?_) hbase⟩
  · obtain ⟨lb, hlb⟩ := own_cells hbs k hk
    rcases e with e | rfl
    · exact own_ne_cells how hlb (by decide) e
    · exact absurd (hlb.ty hlo).1 (by decide)
  · rcases hk with e | rfl
    · exact own_base_le how k e
    · exact hbo
theorem fin_cells {c0 c1 c2 z0 z1 z2 : Value} {n : Nat} (hn : Ls.length = n) (hst : Stk W base (.slice (some ⟨bo, 0, none⟩) (n + 1) capo) (Ls ++ [L]) vs S) (hbo : base ≤ bo)
    (how : W.ownsRow base 49 3 v L.length cs) (hels : Els W (fun k => S n k ∧ v.ownBlock ≠ some k) L cs) (hvS : ∀ k, v.ownBlock = some k → S n k)
    (hx : RT W T x [c0, c1, c2]) (hT : ∀ k, T k → base ≤ k ∧ (∃ l, Cells W k 49 l) ∧ ∀ i, i < n + 1 → ¬ S i k)
    (hW : Mod (fun _ => False) W W') (hg1 : W'.grownBy w1 v.ownBlock)
    (hown1 : w1.ownsRow base 49 3 (.slice (some ⟨b1, 0, none⟩) (L.length + 1) cap1) (L.length + 1) (cs ++ [z0, z1, z2]))
    (hat : (Value.slice (some ⟨b1, 0, none⟩) (L.length + 1) cap1).ownBlock = v.ownBlock ∨ ∃ b, (Value.slice (some ⟨b1, 0, none⟩) (L.length + 1) cap1).ownBlock = some b ∧ W'.heap.size ≤ b)
    (hbs : W.ownsRow base 3 1 vb m bs) (hbase : base ≤ W.heap.size) :
    Fin W ((((w1.setCell ⟨b1, L.length * 3, none⟩ c0).setCell ⟨b1, L.length * 3 + 1, none⟩ c1).setCell ⟨b1, L.length * 3 + 2, none⟩ c2).setCell ⟨bo, n, none⟩ (.slice (some ⟨b1, 0, none⟩) (L.length + 1) cap1)) base (.slice (some ⟨bo, 0, none⟩) (n + 1) capo) (Ls ++ [L ++ [x]]) vb m bs := by
  subst hn
  obtain ⟨lo, hlo⟩ := own_cells hst.row bo rfl
  have hvbo : v.ownBlock ≠ some bo := own_ne_cells how hlo (by decide)
  have hlo1 := (hlo.keep hW (fun q => q)).grown hg1 hvbo
  obtain ⟨l1, hl1⟩ := own_cells hown1 b1 rfl
  have hv1 : b1 ≠ bo := by rintro rfl; exact absurd (hl1.ty hlo1).1 (by decide)
  have hcl : cs.length = L.length * 3 := how.1
  have hg2 : W'.grownBy (((w1.setCell ⟨b1, L.length * 3, none⟩ c0).setCell ⟨b1, L.length * 3 + 1, none⟩ c1).setCell ⟨b1, L.length * 3 + 2, none⟩ c2) v.ownBlock := by
    have hb : v.ownBlock = some b1 ∨ W'.heap.size ≤ b1 := by
      rcases hat with hat | ⟨b, hb, hle⟩
      · exact .inl hat.symm
      · simp [Value.ownBlock] at hb; subst hb; exact .inr hle
    refine ⟨hg1.os, hg1.tape, hg1.output, ?_, fun k hk hne => ?_⟩
    · simpa [World.setCell] using hg1.size
    · have hkb : k ≠ b1 := by
        rintro rfl
        rcases hb with hb | hb
        · exact hne hb.symm
        · omega
      rw [Below.heap_setCell _ _ _ _ hkb, Below.heap_setCell _ _ _ _ hkb, Below.heap_setCell _ _ _ _ hkb]
      exact hg1.block k hk hne
  have hown2 := ((hown1.stored (L.length * 3) c0).1.stored (L.length * 3 + 1) c1).1.stored (L.length * 3 + 2) c2
  have hown3 := hown2.1
  rw [show (((cs ++ [z0, z1, z2]).set (L.length * 3) c0).set (L.length * 3 + 1) c1).set (L.length * 3 + 2) c2 = cs ++ [c0, c1, c2] by rw [← hcl]; simp] at hown3
  exact fin_one rfl hst hbo how hels hvS hx hT hW hg2 hown3 hat hbs hbase
theorem fin_three {c0 c1 c2 z0 z1 z2 : Value} {n : Nat} (hn : Ls.length = n) (hst : Stk W base (.slice (some ⟨bo, 0, none⟩) (n + 1) capo) (Ls ++ [L]) vs S) (hbo : base ≤ bo)
    (how : W.ownsRow base 49 3 v L.length cs) (hels : Els W (fun k => S n k ∧ v.ownBlock ≠ some k) L cs) (hvS : ∀ k, v.ownBlock = some k → S n k)
    (hx : RT W T x [c0, c1, c2]) (hT : ∀ k, T k → base ≤ k ∧ (∃ l, Cells W k 49 l) ∧ ∀ i, i < n + 1 → ¬ S i k)
    (hW : Mod (fun _ => False) W W') (hg1 : W'.grownBy w1 v.ownBlock)
    (hown1 : w1.ownsRow base 49 3 (.slice (some ⟨b1, 0, none⟩) (L.length + 1) cap1) (L.length + 1) (cs ++ [z0, z1, z2]))
    (hat : (Value.slice (some ⟨b1, 0, none⟩) (L.length + 1) cap1).ownBlock = v.ownBlock ∨ ∃ b, (Value.slice (some ⟨b1, 0, none⟩) (L.length + 1) cap1).ownBlock = some b ∧ W'.heap.size ≤ b)
    (hbs : W.ownsRow base 3 1 vb m bs) (hbase : base ≤ W.heap.size) :
    Fin W ((((w1.setCell ⟨bo, n, none⟩ (.slice (some ⟨b1, 0, none⟩) (L.length + 1) cap1)).setCell ⟨b1, L.length * 3, none⟩ c0).setCell ⟨b1, L.length * 3 + 1, none⟩ c1).setCell ⟨b1, L.length * 3 + 2, none⟩ c2) base (.slice (some ⟨bo, 0, none⟩) (n + 1) capo) (Ls ++ [L ++ [x]]) vb m bs := by
  have := fin_cells hn hst hbo how hels hvS hx hT hW hg1 hown1 hat hbs hbase
  subst hn
  obtain ⟨lo, hlo⟩ := own_cells hst.row bo rfl
  have hvbo : v.ownBlock ≠ some bo := own_ne_cells how hlo (by decide)
  have hlo1 := (hlo.keep hW (fun q => q)).grown hg1 hvbo
  obtain ⟨l1, hl1⟩ := own_cells hown1 b1 rfl
  have hv1 : b1 ≠ bo := by rintro rfl; exact absurd (hl1.ty hlo1).1 (by decide)
  rw [setCell_comm _ _ ⟨bo, Ls.length, none⟩ _ _ hv1, setCell_comm _ _ ⟨bo, Ls.length, none⟩ _ _ hv1, setCell_comm _ _ ⟨bo, Ls.length, none⟩ _ _ hv1] at this
  exact this
end
end Go.Proofs.YthhnhbpmpdminaaGreatDoor
/-
read.own: a thing as new memory. Conditions: the thing lies in memory.
-/
namespace Go.Proofs.YthhnhbpmpdminaaGreatDoor
set_option maxRecDepth 4096
set_option maxHeartbeats 8000000
set_option linter.unusedSimpArgs false
set_option linter.unusedVariables false
set_option linter.unnecessarySimpa false
open Go.RowKit Go.Proofs.YthhnhbpmpdminaaGreatDoorW.PrintWords Go.Proofs.YthhnhbpmpdminaaGreatDoorW.PrintLast
theorem infoSx : (Tryz.prog.info? 49).map (fun i => (i.zero, i.size, i.bytes)) = some (some (.agg #[.string ⟨#[]⟩, .bool false, .slice none 0 0]), 3, 48) := by kernel_rfl
/-- New blocks of things. -/
def NS (B : Nat) (w : World) (k : Nat) : Prop := B ≤ k ∧ k < w.heap.size ∧ ∃ l, Cells w k 49 l
def TS (B : Nat) (w : World) (v : Value) (k : Nat) : Prop := NS B w k ∧ v.ownBlock ≠ some k
theorem NS.keep {B : Nat} {w w' : World} {k : Nat} (h : NS B w k) (hm : w'.heap[k]? = w.heap[k]?) (hs : w.heap.size ≤ w'.heap.size) : NS B w' k := by
  obtain ⟨h1, h2, l, h3⟩ := h
  exact ⟨h1, by omega, l, hm.trans h3⟩
theorem RL_kidO {w : World} {S : Nat → Prop} {A : Option Addr} {ks : List Sx} (h : RL w S ks A 0) (i : Nat) (x : Sx) (hi : ks[i]? = some x) : ∃ ad A' c', A = some ad ∧ S ad.block ∧
    RT w S x [.string x.word, .bool x.list, .slice A' x.kids.length c'] ∧
    w.cell? (ad.add (i * 3)) = some (.string x.word) ∧ w.cell? ⟨(ad.add (i * 3)).block, (ad.add (i * 3)).off + 1, none⟩ = some (.bool x.list) ∧ w.cell? ⟨(ad.add (i * 3)).block, (ad.add (i * 3)).off + 2, none⟩ = some (.slice A' x.kids.length c') := by
  obtain ⟨ad, cs, h1, h2, h3, h4⟩ := RL_get ks 0 h i x hi
  obtain ⟨A', c', rfl, h5, h6, h7, h8⟩ := RT_cells h4
  have ha : ∀ q, 0 < q → (⟨(ad.add (i * 3)).block, (ad.add (i * 3)).off + q, none⟩ : Addr) = ad.add ((0 + i) * 3 + q) := fun q hq => by
    unfold Addr.add
    rw [if_neg (by omega : ¬ (0 + i) * 3 + q = 0)]
    split <;> simp <;> omega
  refine ⟨ad, A', c', h1, h2, h4, ?_, ?_, ?_⟩
  · have := h3 0 _ rfl; simpa using this
  · rw [ha 1 (by omega)]; exact h3 1 _ rfl
  · rw [ha 2 (by omega)]; exact h3 2 _ rfl
theorem own_any : ∀ (n : Nat) (x : Sx), x.dep ≤ n → ∀ (c : List Value) (w : World), RT w (fun k => k < w.heap.size) x c →
    Calls Tryz.prog 74 #[.agg c.toArray] w fun e w' => (∃ c', e = .returned (.agg c'.toArray) ∧ RT w' (NS w.heap.size w') x c') ∧ Below w.heap.size w w' := by
  intro n
  induction n with
  | zero => intro x hx; rw [Sx.dep_eq] at hx; omega
  | succ n ih =>
    intro x hx c w hc
    have hfew := RT_few hc
    obtain ⟨A, k, rfl, hk, hm, hws, hR⟩ := RT_cells hc
    obtain ⟨xw, hxw⟩ : ∃ v, x.word = v := ⟨_, rfl⟩
    obtain ⟨xl, hxl⟩ : ∃ v, x.list = v := ⟨_, rfl⟩
    obtain ⟨N, hN⟩ : ∃ v, x.kids.length = v := ⟨_, rfl⟩
    have AXW := Aside0.mk hxw
    have AXL := Aside0.mk hxl
    have AN := Aside0.mk hN
    rw [hxw] at hws ⊢
    rw [hxl, hN]
    rw [hN] at hk hfew
    have AR := Aside0.mk hR
    have AX := Aside0.mk hx
    have hb1 : (N : Int) ≤ 9223372036854775807 := by omega
    have c1 := ((Cells.new w 49 [.string xw, .bool xl, .slice A N k]).alloc (.cells #[.string ⟨#[]⟩, .bool false, .slice none 0 0] 49)).alloc (.cells #[.string xw, .bool xl, .slice none 0 0] 49)
    have c2 : Cells (((w.alloc (.cells #[.string xw, .bool xl, .slice A N k] 49)).alloc (.cells #[.string ⟨#[]⟩, .bool false, .slice none 0 0] 49)).alloc (.cells #[.string xw, .bool xl, .slice none 0 0] 49)) (w.heap.size + 1) 49 [.string ⟨#[]⟩, .bool false, .slice none 0 0] := by
      have := (Cells.new (w.alloc (.cells #[.string xw, .bool xl, .slice A N k] 49)) 49 [.string ⟨#[]⟩, .bool false, .slice none 0 0]).alloc (.cells #[.string xw, .bool xl, .slice none 0 0] 49)
      simpa using this
    have c3 : Cells (((w.alloc (.cells #[.string xw, .bool xl, .slice A N k] 49)).alloc (.cells #[.string ⟨#[]⟩, .bool false, .slice none 0 0] 49)).alloc (.cells #[.string xw, .bool xl, .slice none 0 0] 49)) (w.heap.size + 1 + 1) 49 [.string xw, .bool xl, .slice none 0 0] := by
      have := Cells.new ((w.alloc (.cells #[.string xw, .bool xl, .slice A N k] 49)).alloc (.cells #[.string ⟨#[]⟩, .bool false, .slice none 0 0] 49)) 49 [.string xw, .bool xl, .slice none 0 0]
      simpa using this
    have hb := (((Below.refl _ w).alloc (Nat.le_refl _) (.cells #[.string xw, .bool xl, .slice A N k] 49)).alloc (by simp) (.cells #[.string ⟨#[]⟩, .bool false, .slice none 0 0] 49)).alloc (by simp; omega) (.cells #[.string xw, .bool xl, .slice none 0 0] 49)
    clear hc hR hx hxw hxl hN hm hk
    go_enter Tryz.func74, Tryz.ntmps74
    go_upto_region 2 with (fail)
    obtain ⟨w0, hw0⟩ : ∃ w0, ((w.alloc (.cells #[.string xw, .bool xl, .slice A N k] 49)).alloc (.cells #[.string ⟨#[]⟩, .bool false, .slice none 0 0] 49)).alloc (.cells #[.string xw, .bool xl, .slice none 0 0] 49) = w0 := ⟨_, rfl⟩
    rw [hw0] at c1 c2 c3 hb ⊢
    have AS0 : Aside0 (w0.heap.size = w.heap.size + 3) := ⟨by rw [← hw0]; simp⟩
    clear hw0
    have C1 := Aside0.mk c1
    have C2 := Aside0.mk c2
    have C3 := Aside0.mk c3
    have HB := Aside0.mk hb
    have q0 := c1.cell 2 _ rfl
    clear c1 c2 c3 hb
    go_wp2_with fail
    clear q0
    go_loopw [5, 14] (fun v5 v14 wr => ∃ (i : Nat) (vo : Value) (es : List Value), i ≤ N ∧ v14 = .int .i64 (i : Int) ∧ Aside0 (Cells wr (w.heap.size + 1 + 1) 49 [.string xw, .bool xl, vo]) ∧ Aside0 (Cells wr (w.heap.size + 1) 49 [.string ⟨#[]⟩, .bool false, .slice none 0 0]) ∧ Aside0 (wr.ownsRow (w.heap.size + 3) 49 3 vo i es) ∧ Aside0 (Els wr (TS (w.heap.size + 3) wr vo) (x.kids.take i) es) ∧ Aside0 (Below w.heap.size w wr) ∧ Aside0 (w.heap.size + 3 ≤ wr.heap.size)) (fun _ v14 _ => N - (intOf v14).toNat)
    case atStart => exact ⟨0, .slice none 0 0, [], by omega, rfl, C3, C2, ⟨⟨rfl, .inl ⟨rfl, rfl⟩⟩⟩, ⟨by rw [List.take_zero]; exact Els_nil _ _⟩, HB, ⟨by have := AS0.out; omega⟩⟩
    case round =>
      obtain ⟨i, vo, es, hi, rfl, HC3, HC2, HO, HE, HBr, HSr⟩ := hrel
      by_cases hlt : i < N
      · have i0 : (0 : Int) ≤ (i : Int) := by omega
        have i1 : (i : Int) < (N : Int) := by omega
        obtain ⟨y, hy⟩ : ∃ y, x.kids[i]? = some y := ⟨_, List.getElem?_eq_getElem (by rw [AN.out]; exact hlt)⟩
        have HY := Aside0.mk hy
        have hRL : RL wr (fun k => k < w.heap.size) x.kids A 0 := RL_move (fun k hk => HBr.out.block k hk) (fun _ h => h) _ _ _ AR.out
        obtain ⟨ad, a2, k2, rfl, had, hrt, z0, z1, z2⟩ := RL_kidO hRL i y hy
        have hdy : y.dep ≤ n := by
          have := AX.out; rw [Sx.dep_eq] at this
          have := Sx.depL_mem (List.mem_of_getElem? hy); omega
        obtain ⟨yw, hyw⟩ : ∃ v, y.word = v := ⟨_, rfl⟩
        obtain ⟨yl, hyl⟩ : ∃ v, y.list = v := ⟨_, rfl⟩
        obtain ⟨yk, hyk⟩ : ∃ v, y.kids.length = v := ⟨_, rfl⟩
        rw [hyw] at z0 hrt
        rw [hyl] at z1 hrt
        rw [hyk] at z2 hrt
        have HRT := Aside0.mk hrt
        have HDY := Aside0.mk hdy
        have HYW := Aside0.mk hyw
        have HYL := Aside0.mk hyl
        have HYK := Aside0.mk hyk
        clear hRL hrt hdy hyw hyl hyk hy had
        go_upto_region 5 with (fail)
        obtain ⟨w1, hw1⟩ : ∃ w1, wr.alloc (.cells #[.string yw, .bool yl, .slice a2 yk k2] 49) = w1 := ⟨_, rfl⟩
        have hB1 : Below wr.heap.size wr w1 := by rw [← hw1]; exact (Below.refl _ wr).alloc (Nat.le_refl _) _
        have HK1 : Aside0 (Cells w1 wr.heap.size 49 [.string yw, .bool yl, .slice a2 yk k2]) := ⟨by rw [← hw1]; exact Cells.new wr _ _⟩
        have HB1 := Aside0.mk hB1
        have HRT1 : Aside0 (RT w1.drew (fun k => k < w1.drew.heap.size) y [.string yw, .bool yl, .slice a2 yk k2]) := ⟨RT_move (w' := w1.drew) (fun k hk => (show w1.drew.heap[k]? = wr.heap[k]? from hB1.block k (Nat.lt_of_lt_of_le hk HBr.out.size))) (fun k hk => Nat.lt_of_lt_of_le hk (Nat.le_trans HBr.out.size hB1.size)) _ _ HRT.out⟩
        rw [hw1]
        clear hw1 hB1 z0 z1 z2
        refine wp_plan [(0, 0), (1, 1), (1, 2), (2, 3), (2, 4), (3, 5), (0, 6), (3, 7)] (fun w' => Cells w' (w.heap.size + 1 + 1) 49 [.string xw, .bool xl, vo] ∧ Cells w' wr.heap.size 49 [.string yw, .bool yl, .slice a2 yk k2]) (by kernel_rfl) (by kernel_rfl) (fun _ _ d _ _ h => by cases d <;> exact h) ⟨(HC3.out.below HB1.out).drew, HK1.out.drew⟩ ?_
        simp only [planOps, List.filterMap_cons, List.filterMap_nil, List.getElem?_toArray, List.getElem?_cons_zero, List.getElem?_cons_succ, Option.map_some]
        repeat (first
          | (refine' plan_pu _ (by rfl) (fun w' => ?_) ?_; rotate_left 1; (focus (go_simp; try (with_reducible rfl))); (try simp only [wrapi_0, wrapi_1, wrapi_2, wrapi_3, wrapi_4]); simp only [Act.put, List.setIfInBounds_toArray, List.set_cons_zero, List.set_cons_succ])
          | (refine' plan_off (by rfl) ?_; (try simp only [wrapi_0, wrapi_1, wrapi_2, wrapi_3, wrapi_4]); simp only [Act.put, List.setIfInBounds_toArray, List.set_cons_zero, List.set_cons_succ])
          | (refine' plan_offL (by rfl) ?_; (try simp only [wrapi_0, wrapi_1, wrapi_2, wrapi_3, wrapi_4]); simp only [Act.put, List.setIfInBounds_toArray, List.set_cons_zero, List.set_cons_succ])
          | (refine' plan_offE (by rfl) (by first | assumption | exact (by assumption)) ?_; (try simp only [wrapi_0, wrapi_1, wrapi_2, wrapi_3, wrapi_4]); simp only [Act.put, List.setIfInBounds_toArray, List.set_cons_zero, List.set_cons_succ])
          | (refine' plan_ld _ (by rfl) (fun w' hSw => ?_) ?_; rotate_left 1; (focus ((try dsimp only at hSw); have c2 := hSw.1.cell 2 _ rfl; have d0 := hSw.2.cell 0 _ rfl; have d1 := hSw.2.cell 1 _ rfl; have d2 := hSw.2.cell 2 _ rfl; go_simp; try (with_reducible rfl))); (try simp only [wrapi_0, wrapi_1, wrapi_2, wrapi_3, wrapi_4]); simp only [Act.put, List.setIfInBounds_toArray, List.set_cons_zero, List.set_cons_succ]))
        refine plan_ef (fun K hK => ?_)
        go_simp
        refine (ih y HDY.out _ _ HRT1.out).mono ?_
        rintro e w2 ⟨⟨c', rfl, hrt2⟩, hB2⟩
        have hB2' : Below w1.heap.size w1 w2 := ((Below.refl _ w1).drew).trans hB2
        obtain ⟨a3, k3, rfl, _, _, _, _⟩ := RT_cells hrt2
        rw [HYW.out, HYL.out, HYK.out] at hrt2 ⊢
        have HRT2 := Aside0.mk hrt2
        have HB2 := Aside0.mk (HB1.out.trans (hB2'.mono HB1.out.size))
        refine hK.out _ _ (⟨HC3.out.below HB2.out, (HK1.out.below hB2')⟩) (fun _ => ?_)
        clear hK K
        try (try simp only [wrapi_0, wrapi_1, wrapi_2, wrapi_3, wrapi_4]); simp only [Act.put, List.setIfInBounds_toArray, List.set_cons_zero, List.set_cons_succ]
        clear hrt2 hB2
        have HB12 := Aside0.mk hB2'
        clear hB2'
        refine plan_ef (fun K hK => ?_)
        go_simp
        obtain ⟨w3, hw3⟩ : ∃ w3, w2.alloc (.cells #[.string yw, .bool yl, .slice a3 yk k3] 49) = w3 := ⟨_, rfl⟩
        have HB23 : Aside0 (Below w2.heap.size w2 w3) := ⟨by rw [← hw3]; exact (Below.refl _ w2).alloc (Nat.le_refl _) _⟩
        have HN3 : Aside0 (Cells w3 w2.heap.size 49 [.string yw, .bool yl, .slice a3 yk k3]) := ⟨by rw [← hw3]; exact Cells.new w2 _ _⟩
        have HB3 := Aside0.mk (HB2.out.trans (HB23.out.mono HB2.out.size))
        have HC33 := Aside0.mk (HC3.out.below HB3.out)
        have HC23 := Aside0.mk (HC2.out.below HB3.out)
        have HO3 : Aside0 (w3.ownsRow (w.heap.size + 3) 49 3 vo i es) := ⟨own_keep HO.out (Mod.of_below (S := fun _ => False) HB3.out) (fun _ _ q => q)⟩
        rw [hw3]
        refine hK.out _ _ ⟨HC33.out, ((HK1.out.below HB12.out).below HB23.out)⟩ (fun _ => ?_)
        clear hK K hw3
        try simp only [Act.put, List.setIfInBounds_toArray, List.set_cons_zero, List.set_cons_succ]
        refine plan_fi (fun K hK => ?_)
        refine ap_at (w0 := w3) w3 (w.heap.size + 3) (.tmp 19) (.tmp 22) 47 49 (.agg #[.string ⟨#[]⟩, .bool false, .slice none 0 0]) 3 48 vo i es [.string yw, .bool yl, .slice a3 yk k3] ⟨w2.heap.size, 0, none⟩ 1 (fun j u hu => by rw [add0]; exact HN3.out.cell j u hu) (by rfl) rfl Tryz.underlying47 infoSx rfl (by decide) (by decide) (by rfl) (by simp [Act.eval]) rfl (by simp [Value.oneCell']) HO3.out (Below.refl _ _) (by have := HSr.out; have := HB3.out.size; omega) (by omega) ?_
        intro v1 w4 hown1 hB4 hg4 hat4
        obtain ⟨b1, cap1, l1, rfl, _, _, _, _, _⟩ := own_row hown1 (by omega)
        obtain ⟨v1, hv1e⟩ : ∃ v1, v1 = Value.slice (some ⟨b1, 0, none⟩) (i + 1) cap1 := ⟨_, rfl⟩
        rw [← hv1e] at hown1 hat4 ⊢
        have s1 : wr.heap.size ≤ w1.heap.size := HB1.out.size
        have s2 : w1.heap.size ≤ w2.heap.size := HB12.out.size
        have s3 : w2.heap.size ≤ w3.heap.size := HB23.out.size
        have s4 : w3.heap.size ≤ w4.heap.size := hg4.size
        have hvo : ∀ k, vo.ownBlock = some k → k < wr.heap.size := own_lt_size HO.out
        have hv1 : ∀ k, k < w3.heap.size → vo.ownBlock ≠ some k → v1.ownBlock ≠ some k := fun k hk hne q => by
          rcases hat4 with q1 | ⟨b, q1, hb⟩
          · exact hne (q1 ▸ q)
          · rw [q1] at q
            have : b = k := by simpa using q
            omega
        have hE4 : Els w4 (TS (w.heap.size + 3) w4 v1) (x.kids.take (i + 1)) (es ++ [.string yw, .bool yl, .slice a3 yk k3]) := by
          have htk : x.kids.take (i + 1) = x.kids.take i ++ [y] := by
            rw [List.take_add_one, HY.out]; rfl
          rw [htk]
          refine Els_snoc (Els_move HE.out (fun k hk => ?_) (fun k hk => ?_)) (RT_move (fun k hk => ?_) (fun k hk => ?_) _ _ HRT2.out)
          · have hk2 := hk.1.2.1
            exact (hg4.block k (by omega) (fun q => hk.2 q.symm)).trans (HB3.out.block k hk2)
          · have hk2 := hk.1.2.1
            exact ⟨hk.1.keep ((hg4.block k (by omega) (fun q => hk.2 q.symm)).trans (HB3.out.block k hk2)) (by omega), hv1 k (by omega) hk.2⟩
          · have hk2 := hk.2.1
            have hk1 : w1.heap.size ≤ k := hk.1
            exact (hg4.block k (by omega) (fun q => by have := hvo k q.symm; omega)).trans (HB23.out.block k hk2)
          · have hk2 := hk.2.1
            have hk1 : w1.heap.size ≤ k := hk.1
            have hkk := hk.keep ((hg4.block k (by omega) (fun q => by have := hvo k q.symm; omega)).trans (HB23.out.block k hk2)) (by omega)
            refine ⟨⟨by have := HSr.out; omega, hkk.2⟩, hv1 k (by omega) (fun q => by have := hvo k q; omega)⟩
        have HE4 := Aside0.mk hE4
        have HO4 := Aside0.mk hown1
        have HC34 : Aside0 (Cells w4 (w.heap.size + 1 + 1) 49 [.string xw, .bool xl, vo]) := ⟨(hB4.block _ (by omega)).trans HC33.out⟩
        have HC24 : Aside0 (Cells w4 (w.heap.size + 1) 49 [.string ⟨#[]⟩, .bool false, .slice none 0 0]) := ⟨(hB4.block _ (by omega)).trans HC23.out⟩
        have HB4 : Aside0 (Below w.heap.size w w4) := ⟨(HBr.out.trans (HB3.out.mono HBr.out.size)).trans (hB4.mono (by omega))⟩
        have HS4 : Aside0 (w.heap.size + 3 ≤ w4.heap.size) := ⟨by have := HSr.out; omega⟩
        clear hE4 hown1 hB4 hg4 hat4 hvo hv1 s1 s2 s3 s4
        subst hv1e
        refine hK.out _ _ ?_
        clear hK K
        have s1 := HC34.out.cell 2 _ rfl
        have t1 := HC34.out.frozen 2
        repeat (first
          | (refine' plan_pu _ (by rfl) (fun w' => ?_) ?_; rotate_left 1; (focus (go_simp; try (with_reducible rfl))); simp only [Act.put, List.setIfInBounds_toArray, List.set_cons_zero, List.set_cons_succ]))
        refine plan_fi (fun K hK => ?_)
        go_simp
        refine hK.out _ _ (plan_nil ?_)
        clear hK K s1 t1
        have hm5 : Mod (fun k => k = w.heap.size + 1 + 1) w4 (w4.setCell ⟨w.heap.size + 1 + 1, 2, none⟩ (.slice (some ⟨b1, 0, none⟩) (i + 1) cap1)) := (Mod.refl (fun k => k = w.heap.size + 1 + 1) w4).setCell (p := ⟨w.heap.size + 1 + 1, 2, none⟩) (.inl rfl) _
        have HM5 := Aside0.mk hm5
        clear hm5
        go_wp2_with fail
        go_roundw
        case rel =>
          refine ⟨i + 1, _, _, by omega, by go_num, ⟨HC34.out.set 2 _⟩, ⟨HC24.out.keep HM5.out (by omega)⟩, ⟨own_keep HO4.out HM5.out (fun k hk q => by have := own_base_le HO4.out k hk; omega)⟩, ⟨Els_move HE4.out (fun k hk => HM5.out.keep k hk.1.2.1 (by have := hk.1.1; omega)) (fun k hk => ⟨hk.1.keep (HM5.out.keep k hk.1.2.1 (by have := hk.1.1; omega)) HM5.out.size, hk.2⟩)⟩, ⟨HB4.out.setCell (p := ⟨w.heap.size + 1 + 1, 2, none⟩) (by simp; omega) _⟩, ⟨by have := HS4.out; have := HM5.out.size; omega⟩⟩
        case measure => simp [intOf]; omega
      · have i1 : (N : Int) ≤ (i : Int) := by omega
        have hall : i = N := by omega
        subst hall
        have z0 := HC3.out.cell 0 _ rfl
        have z1 := HC3.out.cell 1 _ rfl
        have z2 := HC3.out.cell 2 _ rfl
        have r0 := HC2.out.cell 0 _ rfl
        have r1 := HC2.out.cell 1 _ rfl
        have r2 := HC2.out.cell 2 _ rfl
        have f0 := HC2.out.frozen 0
        have f1 := HC2.out.frozen 1
        have f2 := HC2.out.frozen 2
        obtain ⟨av, cv, rfl, hcv, hcm⟩ : ∃ A c, vo = .slice A i c ∧ i ≤ c ∧ c ≤ 9223372036854775807 := by
          rcases HO.out.2 with ⟨q, q0⟩ | ⟨g', cap, cur, q, _, _, h1, h2, _⟩
          · exact ⟨none, 0, by rw [q, q0], by omega, by omega⟩
          · exact ⟨_, _, q, h1, by unfold maxLen at h2; omega⟩
        go_wp2_with fail
        have hm5 := ((Mod.refl (fun k => k = w.heap.size + 1) wr).setCell (p := ⟨w.heap.size + 1, 0, none⟩) (.inl rfl) (.string xw)).setCell (p := ⟨w.heap.size + 1, 1, none⟩) (.inl rfl) (.bool xl) |>.setCell (p := ⟨w.heap.size + 1, 2, none⟩) (.inl rfl) (.slice av i cv)
        have HF := ((HC2.out.set 0 (.string xw)).set 1 (.bool xl)).set 2 (.slice av i cv)
        have hEf := HE.out
        rw [show x.kids.take i = x.kids by rw [← AN.out]; exact List.take_length] at hEf
        have hrl := RL_own (T := NS (w.heap.size + 3) wr) HO.out AN.out.symm hEf (fun k hk => hk.1) (fun k hk => ⟨own_base_le HO.out k hk, own_lt_size HO.out k hk, own_cells HO.out k hk⟩)
        have hrt := RT_mk x (A := av) (c := cv) (by rw [AN.out]; exact hcv) hcm (by rw [AXW.out]; exact hws) hrl (by rw [AN.out]; exact hfew)
        rw [AXW.out, AXL.out, AN.out] at hrt
        obtain ⟨wf, hwf⟩ : ∃ wf, ((wr.setCell ⟨w.heap.size + 1, 0, none⟩ (.string xw)).setCell ⟨w.heap.size + 1, 1, none⟩ (.bool xl)).setCell ⟨w.heap.size + 1, 2, none⟩ (.slice av i cv) = wf := ⟨_, rfl⟩
        rw [hwf] at hm5 HF ⊢
        have hrt2 : RT wf (NS w.heap.size wf) x [.string xw, .bool xl, .slice av i cv] := RT_move (fun k hk => hm5.keep k hk.2.1 (fun q => by have := hk.1; omega)) (fun k hk => by
          have := hk.keep (hm5.keep k hk.2.1 (fun q => by have := hk.1; omega)) hm5.size
          exact ⟨by have := hk.1; omega, this.2⟩) _ _ hrt
        have hbf : Below w.heap.size w wf := HBr.out.trans (hm5.belowB (fun k q => by omega) HBr.out.size)
        exact bodyPost_ret (results_cell_row rfl _ _ (w.heap.size + 1) 49 #[.string xw, .bool xl, .slice av i cv] (0, 0) _ rfl HF Tryz.underlying49 rfl (by kernel_rfl)) rfl ⟨⟨_, rfl, hrt2⟩, hbf⟩
end Go.Proofs.YthhnhbpmpdminaaGreatDoor
