/-
told: the place and the number of an error. Conditions: errors.errorType holds the descriptor of error.
-/
import Derived.Test.YtdhfjaekhibaaaaDoorAsx
namespace Go.Proofs.YtdhfjaekhibaaaaDoor
set_option maxRecDepth 4096
open Go.RowKit Go.Proofs.YtdhfjaekhibaaaaDoorW.PrintWords

/-- errors.errorType as it is laid. -/
def EV (w : World) : Prop := w.cell? ⟨0, 0, none⟩ = some (.iface 93 (.agg #[.pointer (some ⟨2, 25, none⟩)]))

set_option maxHeartbeats 1000000 in
theorem as_any (b fa a1 : Nat) (u : Value) (w : World) (h1 : w.cell? ⟨a1, 0, none⟩ = some (.pointer (some ⟨fa, 0, none⟩))) (hf : Cells w fa 61 [u]) :
    Calls Tryd.prog 43 #[.iface 61 (.pointer (some ⟨b, 0, none⟩)), .iface 63 (.pointer (some ⟨fa, 0, none⟩)), .agg #[.pointer (some ⟨2, 63, none⟩), .pointer (some ⟨a1, 0, none⟩), .int .u64 150], .iface 93 (.agg #[.pointer (some ⟨2, 61, none⟩)])] w
      fun e w' => e = .returned (.bool true) ∧ Cells w' fa 61 [.pointer (some ⟨b, 0, none⟩)] ∧ Mod (fun k => k = fa) w w' := by
  have hl := hf.lt
  have hl1 : a1 < w.heap.size := World.block_lt_of_cell? w _ h1
  have j48 := k48
  have j80 := k80
  have j40 := k40e
  have j49 := fun W h => k49 W ⟨a1, 0, none⟩ ⟨fa, 0, none⟩ h
  have hc := hf.cell 0 _ rfl
  have hz := hf.frozen 0
  have HF := Aside0.mk hf
  clear hf
  go_enter Tryd.func43, Tryd.ntmps43
  go_wp2_with fail
  refine wp_loop_rounds 1 ?_
  rw [rounds_succ]
  go_wp2_with fail
  rw [k50 _ _ _ ⟨b, 0, none⟩ u (by go_simp) (by go_simp) (by go_simp)]
  go_wp2_with fail
  go_returns
  exact ⟨rfl, ((HF.out.set 0 _).alloc _).alloc _, ((Mod.setCell (p := ⟨fa, 0, none⟩) (Mod.refl (fun k => k = fa) w) (.inl rfl) _).alloc _).alloc _⟩

set_option maxHeartbeats 2000000 in
theorem As_any (b fa : Nat) (u : Value) (w : World) (hf : Cells w fa 61 [u]) (hE : EV w) :
    Calls Tryd.prog 29 #[.iface 61 (.pointer (some ⟨b, 0, none⟩)), .iface 63 (.pointer (some ⟨fa, 0, none⟩))] w
      fun e w' => e = .returned (.bool true) ∧ Cells w' fa 61 [.pointer (some ⟨b, 0, none⟩)] ∧ Mod (fun k => k = fa) w w' := by
  have hl := hf.lt
  have h40 := k40
  have h41 := k41
  have h42 := fun W a h => k42 W a ⟨fa, 0, none⟩ h
  have h69 := k69 61 (.inl rfl)
  have h69' := k69 63 (.inr rfl)
  have h82 := k82
  have h83 := k83
  have he : w.cell? ⟨0, 0, none⟩ = some (.iface 93 (.agg #[.pointer (some ⟨2, 25, none⟩)])) := hE
  have hel : 0 < w.heap.size := World.block_lt_of_cell? w _ he
  have HF := Aside0.mk hf
  clear hf hE
  go_enter Tryd.func29, Tryd.ntmps29
  go_wp2_with fail
  have hc1 : ((w.alloc (.cells #[.pointer (some ⟨fa, 0, none⟩)] 63)).alloc (.cells #[.pointer (some ⟨2, 63, none⟩), .pointer (some ⟨w.heap.size, 0, none⟩), .int .u64 150] 79)).cell? ⟨w.heap.size, 0, none⟩ = some (.pointer (some ⟨fa, 0, none⟩)) :=
    ((Cells.new w 63 [.pointer (some ⟨fa, 0, none⟩)]).alloc _).cell 0 _ rfl
  refine (as_any b fa w.heap.size u _ hc1 ((HF.out.alloc _).alloc _)).mono ?_
  rintro e w1 ⟨rfl, hf1, hm1⟩
  have HM := Aside0.mk hm1
  have HF1 := Aside0.mk hf1
  clear hm1 hf1 hc1 h40 h41 h42 h69 h69' h82 h83
  go_wp2_with fail
  go_returns
  exact ⟨rfl, HF1.out, (((Mod.refl (fun k => k = fa) w).alloc _).alloc _).trans HM.out⟩

theorem told_nil (w : World) : Calls Tryd.prog 12 #[.nilIface] w fun e w' => e = .returned (.tuple #[.int .i64 0, .int .i64 0]) ∧ w' = w := by
  go_enter Tryd.func12, Tryd.ntmps12
  go_wp2
  go_ret2
  exact ⟨rfl, rfl⟩

set_option maxHeartbeats 2000000 in
theorem told_err (v : Value) (p n : Nat) (w : World) (h : ErrV w v p n) (hE : EV w) :
    Calls Tryd.prog 12 #[v] w fun e w' => e = .returned (.tuple #[.int .i64 (p : Int), .int .i64 (n : Int)]) ∧ Below w.heap.size w w' := by
  obtain ⟨b, rfl, hb⟩ := h
  have hE1 : EV (w.alloc (.cells #[.pointer none] 61)) := by
    have he : w.cell? ⟨0, 0, none⟩ = some (.iface 93 (.agg #[.pointer (some ⟨2, 25, none⟩)])) := hE
    have hel : 0 < w.heap.size := World.block_lt_of_cell? w _ he
    show (w.alloc _).cell? ⟨0, 0, none⟩ = _
    rw [World.cell?_alloc_past _ _ _ hel]; exact he
  have HB := Aside0.mk hb
  have HE := Aside0.mk hE1
  clear hE hE1 hb
  go_enter Tryd.func12, Tryd.ntmps12
  go_wp2_with fail
  refine (As_any b w.heap.size (.pointer none) _ (Cells.new w 61 [.pointer none]) HE.out).mono ?_
  rintro e w1 ⟨rfl, hf1, hm1⟩
  have hb1 := (HB.out.alloc (.cells #[.pointer none] 61)).keep hm1 (fun e => by have := HB.out.lt; omega)
  have c0 := hf1.cell 0 _ rfl
  have c1 := hb1.cell 0 _ rfl
  have c2 := hb1.cell 1 _ rfl
  have HM := Aside0.mk hm1
  clear hm1 hf1 hb1
  go_wp2_with fail
  go_quiet (fail)
  go_wp2_with fail
  go_returns
  exact ⟨rfl, pw_below_drewN (((Below.refl w.heap.size w).alloc (Nat.le_refl _) _).trans (HM.out.belowB (fun k hk => hk ▸ Nat.le_refl _) (by simp))) _⟩
end Go.Proofs.YtdhfjaekhibaaaaDoor
