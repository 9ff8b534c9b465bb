/-
The law's examples: known tells true. Conditions: the cell of errors.errorType.
-/
import Derived.Test.YtdhfjaekhibaaaaDoorPrs
import Derived.Test.YtdhfjaekhibaaaaDoorTld
import Derived.Test.YtdhfjaekhibaaaaDoorPrn
import Derived.Test.YtdhfjaekhibaaaaDoorSiz
import Derived.Test.YtdhfjaekhibaaaaDoorWrd
namespace Go.Proofs.YtdhfjaekhibaaaaDoor
set_option maxRecDepth 4096
open Go.RowKit Go.Proofs.YtdhfjaekhibaaaaDoorW.PrintWords Go.Proofs.YtdhfjaekhibaaaaDoorW.PrintLast

theorem ErrV.up {w w' : World} {v : Value} {p n : Nat} (h : ErrV w v p n) (hb : Below w.heap.size w w') : ErrV w' v p n := by
  obtain ⟨b, rfl, hc⟩ := h
  exact ⟨b, rfl, hc.below hb⟩
theorem EV.up {w w' : World} (h : EV w) (hb : Below w.heap.size w w') : EV w' :=
  (Mod.of_below hb).cell h
theorem RL_up {w1 w' : World} {a : Nat} {L : List Sx} {A : Option Addr} (h : RL w1 (fun k => a ≤ k ∧ k < w1.heap.size) L A 0) (hb : Below w1.heap.size w1 w') : RL w' (fun k => k < w'.heap.size) L A 0 :=
  RL_move (fun k hk => hb.block k hk.2) (fun _ hk => Nat.lt_of_lt_of_le hk.2 hb.size) L A 0 h

theorem ex1 : ∃ x : Sx, parse [40, 97, 32, 40, 98, 41, 32, 35, 120, 48, 102, 41, 32, 59, 32, 99] = .ok [x] ∧ pr x = [40, 97, 32, 40, 98, 41, 32, 35, 120, 48, 102, 41] ∧ sz x = 5 ∧ x.kids.length = 3 := ⟨listSx [wordSx ⟨#[97]⟩, listSx [wordSx ⟨#[98]⟩], wordSx ⟨#[35, 120, 48, 102]⟩], by kernel_rfl, by kernel_rfl, by kernel_rfl, by kernel_rfl⟩
theorem ex2 : parse [40] = .error (0, 20) := by kernel_rfl
theorem ex3 : parse [97, 93] = .error (1, 22) := by kernel_rfl
theorem ex4 : ∃ y z : Sx, parse [124, 120, 32, 121, 124, 40, 41] = .ok [y, z] ∧ y.word = ⟨#[124, 120, 32, 121, 124]⟩ ∧ z.list = true := ⟨wordSx ⟨#[124, 120, 32, 121, 124]⟩, listSx [], by kernel_rfl, by kernel_rfl, by kernel_rfl⟩

theorem kid0 {w : World} {S : Nat → Prop} {A : Option Addr} {x : Sx} {r : List Sx} (h : RL w S (x :: r) A 0) : ∃ ad A' c', A = some ad ∧
    RT w S x [.string x.word, .bool x.list, .slice A' x.kids.length c'] ∧
    w.cell? ad = some (.string x.word) ∧ w.cell? ⟨ad.block, ad.off + 1, none⟩ = some (.bool x.list) ∧ w.cell? ⟨ad.block, ad.off + 2, none⟩ = some (.slice A' x.kids.length c') := by
  obtain ⟨ad, A', c', h1, _, h3, _, h4, h5, h6⟩ := RL_kid h 0 (by simp)
  exact ⟨ad, A', c', h1, h3, h4, h5, h6⟩

set_option maxHeartbeats 4000000 in
theorem known_any (w : World) (hE : EV w) : Calls Tryd.prog 9 #[] w fun e w' => e = .returned (.bool true) ∧ Below w.heap.size w w' := by
  have AE := Aside0.mk hE
  clear hE
  go_enter Tryd.func9, Tryd.ntmps9
  go_wp2_with fail
  refine (parse_any ⟨#[40, 97, 32, 40, 98, 41, 32, 35, 120, 48, 102, 41, 32, 59, 32, 99]⟩ _ (by decide)).mono ?_
  rintro e w1 ⟨hp, hb1⟩
  obtain ⟨x, hx, hpr, hsz, hk⟩ := ex1
  change ParseOut w w1 e (parse [40, 97, 32, 40, 98, 41, 32, 35, 120, 48, 102, 41, 32, 59, 32, 99]) at hp
  rw [hx] at hp
  obtain ⟨A1, c1, rfl, hc1, hc2, hR1⟩ := hp
  have HX := Aside0.mk (And.intro hpr (And.intro hsz hk))
  have HB1 := Aside0.mk hb1
  have HR1 := Aside0.mk hR1
  clear hpr hsz hk hx hb1 hR1
  go_wp2_with fail
  refine (parse_any ⟨#[40]⟩ _ (by decide)).mono ?_
  rintro e w2 ⟨hp, hb2⟩
  change ParseOut w1 w2 e (parse [40]) at hp
  rw [ex2] at hp
  obtain ⟨v2, rfl, hv2⟩ := hp
  have HB2 := Aside0.mk hb2
  have HV2 := Aside0.mk hv2
  clear hb2 hv2
  go_wp2_with fail
  refine (parse_any ⟨#[97, 93]⟩ _ (by decide)).mono ?_
  rintro e w3 ⟨hp, hb3⟩
  change ParseOut w2 w3 e (parse [97, 93]) at hp
  rw [ex3] at hp
  obtain ⟨v3, rfl, hv3⟩ := hp
  have HB3 := Aside0.mk hb3
  have HV3 := Aside0.mk hv3
  clear hb3 hv3
  go_wp2_with fail
  refine (parse_any ⟨#[124, 120, 32, 121, 124, 40, 41]⟩ _ (by decide)).mono ?_
  rintro e w4 ⟨hp, hb4⟩
  obtain ⟨y, z, hyz, hy, hz⟩ := ex4
  change ParseOut w3 w4 e (parse [124, 120, 32, 121, 124, 40, 41]) at hp
  rw [hyz] at hp
  obtain ⟨A4, c4, rfl, hc41, hc42, hR4⟩ := hp
  have hb24 : Below w1.heap.size w1 w4 := HB2.out.trans ((HB3.out.mono HB2.out.size).trans (hb4.mono (Nat.le_trans HB2.out.size HB3.out.size)))
  obtain ⟨a1, B1, d1, rfl, ht1, z11, z12, z13⟩ := kid0 (RL_up HR1.out hb24)
  obtain ⟨a4, B4, d4, rfl, ht4, z41, z42, z43⟩ := kid0 (RL_up hR4 (Below.refl _ _))
  obtain ⟨a4', cs, h1, _, h3, h4⟩ := RL_get _ 0 (RL_up hR4 (Below.refl _ _)) 1 z rfl
  injection h1 with h1
  subst h1
  obtain ⟨B5, d5, rfl, _, _, _, _⟩ := RT_cells h4
  have z51 : w4.cell? ⟨a4.block, a4.off + 4, none⟩ = some (.bool z.list) := h3 1 _ rfl
  rw [hy] at z41
  rw [hz] at z51
  rw [HX.out.2.2] at z13 ht1
  have hBW : Below w.heap.size w w4 := HB1.out.trans (hb24.mono HB1.out.size)
  have AT1 := Aside0.mk ht1
  have HB4 := Aside0.mk hb4
  have AB := Aside0.mk hBW
  clear ht1 ht4 hb4 hb24 hR4 h3 h4 hyz hy hz hBW z42 z43
  go_wp2_with fail
  refine (Print_any x [.string x.word, .bool x.list, .slice B1 3 d1] w4 AT1.out (by rw [HX.out.1]; decide)).mono ?_
  rintro e w5 ⟨rfl, hb5⟩
  rw [HX.out.1]
  have m5 := Mod.of_below (S := fun _ => False) hb5
  have y11 := m5.cell z11
  have y12 := m5.cell z12
  have y13 := m5.cell z13
  have y41 := m5.cell z41
  have y51 := m5.cell z51
  have AT5 := Aside0.mk (m5.RT AT1.out)
  have HB5 := Aside0.mk hb5
  clear m5 hb5 z11 z12 z13 z41 z51
  go_wp2_with fail
  refine (size_any _ x (Nat.le_refl _) [.string x.word, .bool x.list, .slice B1 3 d1] w5 AT5.out (by rw [HX.out.2.1]; decide)).mono ?_
  rintro e w6 ⟨rfl, hb6⟩
  rw [HX.out.2.1]
  have m6 := Mod.of_below (S := fun _ => False) hb6
  have x41 := m6.cell y41
  have x51 := m6.cell y51
  have HB6 := Aside0.mk hb6
  clear m6 hb6 y11 y12 y13 y41 y51
  go_wp2_with fail
  have b46 : Below w4.heap.size w4 w6 := HB5.out.trans (HB6.out.mono HB5.out.size)
  have b36 : Below w3.heap.size w3 w6 := HB4.out.trans (b46.mono HB4.out.size)
  have b26 : Below w2.heap.size w2 w6 := HB3.out.trans (b36.mono HB3.out.size)
  have b06 : Below w.heap.size w w6 := AB.out.trans (b46.mono AB.out.size)
  have B36 := Aside0.mk b36
  have B06 := Aside0.mk b06
  refine (told_err v2 0 20 w6 (HV2.out.up b26) (AE.out.up b06)).mono ?_
  rintro e w7 ⟨rfl, hb7⟩
  have B07 := Aside0.mk (b06.trans (hb7.mono b06.size))
  have B37 := Aside0.mk (b36.trans (hb7.mono b36.size))
  clear b46 b36 b26 b06 hb7 x41 x51
  go_wp2_with fail
  refine (told_err v3 1 22 w7 (HV3.out.up B37.out) (AE.out.up B07.out)).mono ?_
  rintro e w8 ⟨rfl, hb8⟩
  have B08 := Aside0.mk (B07.out.trans (hb8.mono B07.out.size))
  clear hb8
  go_wp2_with fail
  refine (sword_any ⟨#[97, 45, 98, 63]⟩ _ (by decide)).mono ?_
  rintro e w9 ⟨rfl, hb9⟩
  rw [show wordB (⟨#[97, 45, 98, 63]⟩ : ByteArray).data.toList = true by kernel_rfl]
  have B09 := Aside0.mk (B08.out.trans (hb9.mono B08.out.size))
  clear hb9
  go_wp2_with fail
  refine (sword_any ⟨#[97, 32, 98]⟩ _ (by decide)).mono ?_
  rintro e w10 ⟨rfl, hb9⟩
  rw [show wordB (⟨#[97, 32, 98]⟩ : ByteArray).data.toList = false by kernel_rfl]
  have B10 := Aside0.mk (B09.out.trans (hb9.mono B09.out.size))
  clear hb9
  go_wp2_with fail
  refine (sword_any ⟨#[]⟩ _ (by decide)).mono ?_
  rintro e w11 ⟨rfl, hb9⟩
  rw [show wordB (⟨#[]⟩ : ByteArray).data.toList = false by kernel_rfl]
  have B11 := Aside0.mk (B10.out.trans (hb9.mono B10.out.size))
  clear hb9
  go_wp2_with fail
  go_returns
  exact ⟨rfl, B11.out⟩
end Go.Proofs.YtdhfjaekhibaaaaDoor
