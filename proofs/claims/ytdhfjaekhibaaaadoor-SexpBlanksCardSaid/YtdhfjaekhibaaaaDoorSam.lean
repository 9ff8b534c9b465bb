/-
Two equal things are the same: the reference's Same. Conditions: both lie in memory.
-/
import Derived.Test.YtdhfjaekhibaaaaDoorLay
import Derived.Deep.Slices
import Derived.IntWalk
namespace Go.Proofs.YtdhfjaekhibaaaaDoor
set_option maxRecDepth 4096
open Go.RowKit Go.Proofs.YtdhfjaekhibaaaaDoorW.PrintWords Go.Proofs.YtdhfjaekhibaaaaDoorW.PrintLast

mutual
def Sx.dep : Sx → Nat
  | ⟨_, _, ks⟩ => Sx.depL ks + 1
def Sx.depL : List Sx → Nat
  | [] => 0
  | k :: r => max k.dep (Sx.depL r)
end
theorem Sx.dep_eq (x : Sx) : x.dep = Sx.depL x.kids + 1 := by cases x; rfl
theorem Sx.depL_mem {l : List Sx} : ∀ {k : Sx}, k ∈ l → k.dep ≤ Sx.depL l := by
  induction l with
  | nil => intro k h; cases h
  | cons a r ih =>
    intro k h
    unfold Sx.depL
    rcases List.mem_cons.1 h with rfl | h
    · omega
    · have := ih h; omega

/-- A thing's kid, read. -/
theorem RL_kid {w : World} {S : Nat → Prop} {A : Option Addr} {ks : List Sx} (h : RL w S ks A 0) (i : Nat) (hi : i < ks.length) : ∃ ad A' c', A = some ad ∧ S ad.block ∧
    RT w S ks[i] [.string ks[i].word, .bool ks[i].list, .slice A' ks[i].kids.length c'] ∧ RL w S ks[i].kids A' 0 ∧
    w.cell? (ad.add (i * 3)) = some (.string ks[i].word) ∧ w.cell? ⟨(ad.add (i * 3)).block, (ad.add (i * 3)).off + 1, none⟩ = some (.bool ks[i].list) ∧ w.cell? ⟨(ad.add (i * 3)).block, (ad.add (i * 3)).off + 2, none⟩ = some (.slice A' ks[i].kids.length c') := by
  obtain ⟨ad, cs, h1, h2, h3, h4⟩ := RL_get ks 0 h i ks[i] (List.getElem?_eq_getElem hi)
  obtain ⟨A', c', rfl, h5, h6, h7, h8⟩ := RT_cells h4
  refine ⟨ad, A', c', h1, h2, h4, h8, ?_, ?_, ?_⟩
  · have := h3 0 _ rfl; simpa using this
  · have := h3 1 _ rfl
    rw [show (⟨(ad.add (i * 3)).block, (ad.add (i * 3)).off + 1, none⟩ : Addr) = (ad.add (i * 3)).add 1 from rfl, add_add]; simpa using this
  · have := h3 2 _ rfl
    rw [show (⟨(ad.add (i * 3)).block, (ad.add (i * 3)).off + 2, none⟩ : Addr) = (ad.add (i * 3)).add 2 from rfl, add_add]; simpa using this

theorem RL_none {w : World} {S : Nat → Prop} {ks : List Sx} (h : RL w S ks none 0) : ks.length = 0 := by
  cases ks with
  | nil => rfl
  | cons k r => unfold RL at h; obtain ⟨⟨ad, _, h1, _⟩, _⟩ := h; cases h1

theorem Mod.cell {w w' : World} (hm : Mod (fun _ => False) w w') {p : Addr} {v : Value} (h : w.cell? p = some v) : w'.cell? p = some v := by
  have hb : p.block < w.heap.size := by
    by_cases hb : p.block < w.heap.size
    · exact hb
    · unfold World.cell? at h
      rw [Array.getElem?_eq_none (by omega)] at h
      cases h
  rw [World.cell?_of_block (hm.keep p.block hb (fun q => q))]; exact h
theorem Mod.RT {w w' : World} (hm : Mod (fun _ => False) w w') {x : Sx} {cs : List Value} (h : RT w (fun k => k < w.heap.size) x cs) : RT w' (fun k => k < w'.heap.size) x cs :=
  RT_move (fun k hk => hm.keep k hk (fun q => q)) (fun _ hk => Nat.lt_of_lt_of_le hk hm.size) x cs h
theorem Mod.RL {w w' : World} (hm : Mod (fun _ => False) w w') {ks : List Sx} {A : Option Addr} {j : Nat} (h : RL w (fun k => k < w.heap.size) ks A j) : RL w' (fun k => k < w'.heap.size) ks A j :=
  RL_move (fun k hk => hm.keep k hk (fun q => q)) (fun _ hk => Nat.lt_of_lt_of_le hk hm.size) ks A j h

set_option maxHeartbeats 1000000 in
theorem same_any : ∀ (n : Nat) (x : Sx), x.dep ≤ n → ∀ (c1 c2 : List Value) (w : World), RT w (fun k => k < w.heap.size) x c1 → RT w (fun k => k < w.heap.size) x c2 →
    Calls Tryd.prog 22 #[.agg c1.toArray, .agg c2.toArray] w fun e w' => e = .returned (.bool true) ∧ Below w.heap.size w w' := by
  intro n
  induction n with
  | zero => intro x hx; rw [Sx.dep_eq] at hx; omega
  | succ n ih =>
    intro x hx c1 c2 w hc1 hc2
    obtain ⟨A1, k1, rfl, hk1, hm1, hw1, hR1⟩ := RT_cells hc1
    obtain ⟨A2, k2, rfl, hk2, hm2, hw2, hR2⟩ := RT_cells hc2
    have AR1 := Aside0.mk hR1
    have AR2 := Aside0.mk hR2
    clear hc1 hc2 hR1 hR2
    have AX := Aside0.mk hx
    go_enter Tryd.func22, Tryd.ntmps22
    go_wp2_with fail
    have hk1' : Cells ((w.alloc (.cells #[.string x.word, .bool x.list, .slice A1 x.kids.length k1] 35)).alloc (.cells #[.string x.word, .bool x.list, .slice A2 x.kids.length k2] 35)) w.heap.size 35 [.string x.word, .bool x.list, .slice A1 x.kids.length k1] := (Cells.new w _ _).alloc _
    have hk2' : Cells ((w.alloc (.cells #[.string x.word, .bool x.list, .slice A1 x.kids.length k1] 35)).alloc (.cells #[.string x.word, .bool x.list, .slice A2 x.kids.length k2] 35)) (w.heap.size + 1) 35 [.string x.word, .bool x.list, .slice A2 x.kids.length k2] := by
      simpa using Cells.new (w.alloc (.cells #[.string x.word, .bool x.list, .slice A1 x.kids.length k1] 35)) 35 [.string x.word, .bool x.list, .slice A2 x.kids.length k2]
    have hm0 : Mod (fun _ => False) w ((w.alloc (.cells #[.string x.word, .bool x.list, .slice A1 x.kids.length k1] 35)).alloc (.cells #[.string x.word, .bool x.list, .slice A2 x.kids.length k2] 35)) := ((Mod.refl _ w).alloc _).alloc _
    generalize ((w.alloc (.cells #[.string x.word, .bool x.list, .slice A1 x.kids.length k1] 35)).alloc (.cells #[.string x.word, .bool x.list, .slice A2 x.kids.length k2] 35)) = w0 at hk1' hk2' hm0 ⊢
    obtain ⟨g1, hg1⟩ : ∃ g, g = w.heap.size := ⟨_, rfl⟩
    obtain ⟨g2, hg2⟩ : ∃ g, g = w.heap.size + 1 := ⟨_, rfl⟩
    rw [← hg2, ← hg1]
    rw [← hg1] at hk1'
    rw [← hg2] at hk2'
    clear hg1 hg2
    have AK1 := Aside0.mk hk1'
    have AK2 := Aside0.mk hk2'
    go_loopw [5] (fun v wr => ∃ i : Nat, i ≤ x.kids.length ∧ v = .int .i64 (i : Int) ∧ Mod (fun _ => False) w0 wr) (fun v _ => x.kids.length - (intOf v).toNat)
    case atStart => exact ⟨0, Nat.zero_le _, rfl, Mod.refl _ _⟩
    case round =>
      obtain ⟨i, hi, rfl, hm⟩ := hrel
      have q1 := (AK1.out.keep hm (fun h => h)).cell 2 _ rfl
      have q2 := (AK2.out.keep hm (fun h => h)).cell 2 _ rfl
      by_cases hlt : i < x.kids.length
      · have i0 : (0 : Int) ≤ (i : Int) := by omega
        have i1 : (i : Int) < (x.kids.length : Int) := by omega
        obtain ⟨a1, B1, d1, rfl, hs1, ht1, -, z11, z12, z13⟩ := RL_kid AR1.out i hlt
        obtain ⟨a2, B2, d2, rfl, hs2, ht2, -, z21, z22, z23⟩ := RL_kid AR2.out i hlt
        have hmw := hm0.trans hm
        go_wp2_with fail
        refine wp_plan [(0, 0), (0, 2), (0, 5), (0, 7), (1, 1), (0, 3), (1, 4), (1, 6), (0, 8), (1, 9), (3, 10), (0, 11)] (fun w' => Mod (fun _ => False) wr w') (by kernel_rfl) (by kernel_rfl) (fun _ _ d _ _ h => by cases d <;> exact h) (Mod.refl _ _).drew ?_
        simp only [planOps, List.filterMap_cons, List.filterMap_nil, List.getElem?_toArray, List.getElem?_cons_zero, List.getElem?_cons_succ, Option.map_some]
        repeat (first
          | (refine' plan_pu _ (by rfl) (fun w' => ?_) ?_; rotate_left 1; (focus (go_simp; try (with_reducible rfl))); simp only [Act.put, List.setIfInBounds_toArray, List.set_cons_zero, List.set_cons_succ])
          | (refine' plan_ld _ (by rfl) (fun w' hSw => ?_) ?_; rotate_left 1; (focus ((try dsimp only at hSw); have c1 := ((AK1.out.keep hm (fun h => h)).keep hSw (fun h => h)).cell 2 _ rfl; have c2 := ((AK2.out.keep hm (fun h => h)).keep hSw (fun h => h)).cell 2 _ rfl; have e1 := (hmw.trans hSw).cell z11; have e2 := (hmw.trans hSw).cell z12; have e3 := (hmw.trans hSw).cell z13; have e4 := (hmw.trans hSw).cell z21; have e5 := (hmw.trans hSw).cell z22; have e6 := (hmw.trans hSw).cell z23; go_simp; try (with_reducible rfl))); simp only [Act.put, List.setIfInBounds_toArray, List.set_cons_zero, List.set_cons_succ]))
        refine plan_fi (fun K hK => ?_)
        go_simp
        refine (ih x.kids[i] (by have := AX.out; rw [Sx.dep_eq] at this; have := Sx.depL_mem (List.getElem_mem hlt); omega) [.string x.kids[i].word, .bool x.kids[i].list, .slice B1 x.kids[i].kids.length d1] [.string x.kids[i].word, .bool x.kids[i].list, .slice B2 x.kids[i].kids.length d2] _ (hmw.drew.RT ht1) (hmw.drew.RT ht2)).mono ?_
        rintro e w1 ⟨rfl, hB⟩
        refine hK.out _ _ ?_
        clear hK K
        repeat (first
          | (refine' plan_pu _ (by rfl) (fun w' => ?_) ?_; rotate_left 1; (focus (go_simp; try (with_reducible rfl))); simp only [Act.put, List.setIfInBounds_toArray, List.set_cons_zero, List.set_cons_succ]))
        refine plan_nil ?_
        go_wp2_with fail
        go_roundw
        case rel => exact ⟨i + 1, by omega, by go_num, hm.drew.step hB⟩
        case measure => simp [intOf]; omega
      · have i1 : (x.kids.length : Int) ≤ (i : Int) := by omega
        go_wp2_with fail
        go_returns
        exact ⟨rfl, (hm0.trans hm).below⟩

set_option maxHeartbeats 1000000 in
/-- The law's same: lists of equal things. -/
theorem same_list (ks : List Sx) (A1 A2 : Option Addr) (k1 k2 : Nat) (w : World) (hl : ks.length ≤ 9223372036854775807) (hR1 : RL w (fun k => k < w.heap.size) ks A1 0) (hR2 : RL w (fun k => k < w.heap.size) ks A2 0) :
    Calls Tryd.prog 13 #[.slice A1 ks.length k1, .slice A2 ks.length k2] w fun e w' => e = .returned (.bool true) ∧ Below w.heap.size w w' := by
  have AR1 := Aside0.mk hR1
  have AR2 := Aside0.mk hR2
  clear hR1 hR2
  go_enter Tryd.func13, Tryd.ntmps13
  go_wp2_with fail
  go_loopw [5] (fun v wr => ∃ i : Nat, i ≤ ks.length ∧ v = .int .i64 (i : Int) ∧ Mod (fun _ => False) w wr) (fun v _ => ks.length - (intOf v).toNat)
  case atStart => exact ⟨0, Nat.zero_le _, rfl, Mod.refl _ _⟩
  case round =>
    obtain ⟨i, hi, rfl, hmw⟩ := hrel
    by_cases hlt : i < ks.length
    · have i0 : (0 : Int) ≤ (i : Int) := by omega
      have i1 : (i : Int) < (ks.length : Int) := by omega
      obtain ⟨a1, B1, d1, rfl, hs1, ht1, -, z11, z12, z13⟩ := RL_kid AR1.out i hlt
      obtain ⟨a2, B2, d2, rfl, hs2, ht2, -, z21, z22, z23⟩ := RL_kid AR2.out i hlt
      go_wp2_with fail
      refine wp_plan [(0, 0), (0, 1), (0, 2), (0, 4), (0, 5), (0, 6), (1, 3), (1, 7), (3, 8), (0, 9)] (fun w' => Mod (fun _ => False) wr w') (by kernel_rfl) (by kernel_rfl) (fun _ _ d _ _ h => by cases d <;> exact h) (Mod.refl _ _).drew ?_
      simp only [planOps, List.filterMap_cons, List.filterMap_nil, List.getElem?_toArray, List.getElem?_cons_zero, List.getElem?_cons_succ, Option.map_some]
      repeat (first
        | (refine' plan_pu _ (by rfl) (fun w' => ?_) ?_; rotate_left 1; (focus (go_simp; try (with_reducible rfl))); simp only [Act.put, List.setIfInBounds_toArray, List.set_cons_zero, List.set_cons_succ])
        | (refine' plan_ld _ (by rfl) (fun w' hSw => ?_) ?_; rotate_left 1; (focus ((try dsimp only at hSw); have e1 := (hmw.trans hSw).cell z11; have e2 := (hmw.trans hSw).cell z12; have e3 := (hmw.trans hSw).cell z13; have e4 := (hmw.trans hSw).cell z21; have e5 := (hmw.trans hSw).cell z22; have e6 := (hmw.trans hSw).cell z23; go_simp; try (with_reducible rfl))); simp only [Act.put, List.setIfInBounds_toArray, List.set_cons_zero, List.set_cons_succ]))
      refine plan_fi (fun K hK => ?_)
      go_simp
      refine (same_any _ ks[i] (Nat.le_refl _) [.string ks[i].word, .bool ks[i].list, .slice B1 ks[i].kids.length d1] [.string ks[i].word, .bool ks[i].list, .slice B2 ks[i].kids.length d2] _ (hmw.drew.RT ht1) (hmw.drew.RT ht2)).mono ?_
      rintro e w1 ⟨rfl, hB⟩
      refine hK.out _ _ ?_
      clear hK K
      repeat (first
        | (refine' plan_pu _ (by rfl) (fun w' => ?_) ?_; rotate_left 1; (focus (go_simp; try (with_reducible rfl))); simp only [Act.put, List.setIfInBounds_toArray, List.set_cons_zero, List.set_cons_succ]))
      refine plan_nil ?_
      go_wp2_with fail
      go_roundw
      case rel => exact ⟨i + 1, by omega, by go_num, hmw.drew.step hB⟩
      case measure => simp [intOf]; omega
    · have i1 : (ks.length : Int) ≤ (i : Int) := by omega
      go_wp2_with fail
      go_returns
      exact ⟨rfl, hmw.below⟩
end Go.Proofs.YtdhfjaekhibaaaaDoor
