/-
A builder written on: WriteByte, WriteString. Conditions: how long the text may become.
-/
import Derived.Test.YtdhfjaekhibaaaaDoorBld
import Derived.Test.YtdhfjaekhibaaaaDoorOpn
namespace Go.Proofs.YtdhfjaekhibaaaaDoor
set_option maxRecDepth 4096
open Go.RowKit Go.Shelf Go.Proofs.YtdhfjaekhibaaaaDoorW.PrintWords

theorem Tryd.infoU8 : (Tryd.prog.info? 5).map (fun i => (i.zero, i.size, i.bytes)) = some (some (.int .u8 0), 1, 1) := by kernel_rfl

/-- The builder's buffer grown, and laid into its field again. -/
theorem bu_put {w0 w1 W w2 : World} {B b n cap : Nat} {A : Option Addr} {v : Value} {l l' : List UInt8} (hB : B ≤ b) (hm : Mod (BS B w0) w0 w1) (hbk : w1.heap[b]? = some (.cells #[.pointer (some ⟨b, 0, none⟩), v] 69 (0, 0)))
    (hown : w1.ownsRow B 5 1 v l.length (Lib.byteCells l)) (hne : v.ownBlock ≠ some b) (hW : Mod (fun _ => False) w1 W) (hg : W.grownBy w2 v.ownBlock) (hr : w2.ownsRow B 5 1 (.slice A n cap) (l ++ l').length (Lib.byteCells (l ++ l'))) :
    w2.heap[b]? = some (.cells #[.pointer (some ⟨b, 0, none⟩), v] 69 (0, 0)) ∧
    (Bu (w2.setCell ⟨b, 1, none⟩ (.slice A n cap)) B b (l ++ l') ∧ Mod (BS B w0) w0 (w2.setCell ⟨b, 1, none⟩ (.slice A n cap))) := by
  have hlt : b < w1.heap.size := (Array.getElem?_eq_some_iff.1 hbk).1
  have hb2 : w2.heap[b]? = some (.cells #[.pointer (some ⟨b, 0, none⟩), v] 69 (0, 0)) := by
    rw [hg.block b (Nat.lt_of_lt_of_le hlt hW.size) (fun e => hne e.symm), hW.keep b hlt (fun q => q)]
    exact hbk
  refine ⟨hb2, ?_, ?_⟩
  · exact Lib.BuilderAt.put (T := 69) (e := 5) hB hb2 (bs' := Lib.byteCells (l ++ l')) (by rw [Lib.byteCells_length]; exact hr) (by decide)
  · have k1 : Mod (BS B w1) w1 (w2.setCell ⟨b, 1, none⟩ (.slice A n cap)) := by
      refine ((BS.of hW).grown hg (fun k hk => ?_)).setCell (p := ⟨b, 1, none⟩) (.inl ⟨hB, _, .inl (by simpa [Cells] using hbk)⟩) _
      obtain ⟨l1, hl1⟩ := own_cells hown k hk
      exact .inl ⟨own_base_le hown k hk, l1, .inr hl1⟩
    exact BS.trans hm k1

set_option maxHeartbeats 1000000 in
theorem byte_any (B b : Nat) (l : List UInt8) (c : UInt8) (w : World) (h : Bd w B b l) (hlen : l.length + 1 ≤ 140737488355328) (hBw : B ≤ w.heap.size) :
    Calls Tryd.prog 45 #[.pointer (some ⟨b, 0, none⟩), .int .u8 (c.toNat : Int)] w fun e w' => e = .returned .nilIface ∧ Bu w' B b (l ++ [c]) ∧ Mod (BS B w) w w' := by
  have H := Aside0.mk h
  clear h
  go_enter Tryd.func45, Tryd.ntmps45
  go_wp2_with fail
  refine (copy_any B b l w H.out).mono ?_
  rintro e w1 ⟨rfl, hu, hm⟩
  obtain ⟨hB, v, hbk, hown, hne⟩ := hu
  rw [Lib.byteCells_length] at hown
  have c1 : w1.cell? ⟨b, 1, none⟩ = some v := by rw [Lib.cell_of_heap hbk]; rfl
  have AK := Aside0.mk hbk
  have AO := Aside0.mk hown
  have AM := Aside0.mk hm
  have hbz : B ≤ w1.heap.size := Nat.le_trans hBw hm.size
  clear hbk hown hm
  go_wp2_with (at_builtin; (refine apl_at (w0 := w1) _ B (.tmp 11) (.tmp 13) 67 5 (.int .u8 0) 1 1 v l.length (Lib.byteCells l) [.int .u8 (c.toNat : Int)] ⟨w1.heap.size, 0, none⟩ 1 rfl rfl (news_one (Cells.new w1 _ _)) Tryd.underlying67 Tryd.infoU8 rfl (by decide) (by decide) (by rfl) (by rfl) rfl (by simp [Value.oneCell']) (AO.out.alloc _) ((Below.refl _ _).alloc hbz _) (Nat.le_trans hbz (by simp)) (by omega) ?_; intro v1 w2 hown1 hB2 hg1 hat1; obtain ⟨b1, cap1, l1, rfl, hl1, _, _, _, _⟩ := own_row hown1 (by omega); clear hat1; obtain ⟨hb2, FIN⟩ := bu_put (l' := [c]) hB AM.out AK.out AO.out hne ((Mod.refl _ w1).alloc _) hg1 (by rw [Lib.byteCells_append]; simpa [Lib.byteCells] using hown1); have d1 : w2.cell? ⟨b, 1, none⟩ = some v := (by rw [Lib.cell_of_heap hb2]; rfl); have f1 : w2.frozen? ⟨b, 1, none⟩ = false := Lib.frozen_of_heap hb2 1; have AF := Aside0.mk FIN; clear FIN hb2 hg1 hown1 hB2))
  go_returns
  exact ⟨rfl, AF.out⟩

set_option maxHeartbeats 1000000 in
theorem wstring_any (B b : Nat) (l : List UInt8) (s : ByteArray) (w : World) (h : Bd w B b l) (hlen : l.length + s.size ≤ 140737488355328) (hBw : B ≤ w.heap.size) :
    Calls Tryd.prog 44 #[.pointer (some ⟨b, 0, none⟩), .string s] w fun e w' => e = .returned (.tuple #[.int .i64 s.size, .nilIface]) ∧ Bu w' B b (l ++ s.data.toList) ∧ Mod (BS B w) w w' := by
  have H := Aside0.mk h
  clear h
  obtain ⟨i0, hi, hz⟩ := Option.map_eq_some_iff.1 Tryd.infoU8
  simp only [Prod.mk.injEq] at hz
  obtain ⟨hz0, hz1, hz2⟩ := hz
  go_enter Tryd.func44, Tryd.ntmps44
  go_wp2_with fail
  refine (copy_any B b l w H.out).mono ?_
  rintro e w1 ⟨rfl, hu, hm⟩
  obtain ⟨hB, v, hbk, hown, hne⟩ := hu
  rw [Lib.byteCells_length] at hown
  have c1 : w1.cell? ⟨b, 1, none⟩ = some v := by rw [Lib.cell_of_heap hbk]; rfl
  have AK := Aside0.mk hbk
  have AO := Aside0.mk hown
  have AM := Aside0.mk hm
  have hbz : B ≤ w1.heap.size := Nat.le_trans hBw hm.size
  clear hbk hown hm
  go_wp2_with (at_builtin; (refine Lib.wpList_append_own_string _ rfl _ _ 67 9 rfl B 5 i0 Tryd.underlying67 Tryd.underlying9 hi hz0 hz1 hz2 v l.length (Lib.byteCells l) rfl AO.out s rfl (by unfold maxLen; omega) (by omega) hbz ?_; intro v1 w2 hown1 hg1 _; obtain ⟨A1, n1, cap1, rfl⟩ : ∃ ao n' cap, v1 = .slice ao n' cap := (by rcases hown1.2 with ⟨hv, _⟩ | ⟨g, cap, cur, hv, _⟩ <;> exact ⟨_, _, _, hv⟩); obtain ⟨hb2, FIN⟩ := bu_put (l' := s.data.toList) hB AM.out AK.out AO.out hne (Mod.refl _ w1) hg1 (by rw [Lib.byteCells_append, List.length_append, Array.length_toList]; exact hown1); have d1 : w2.cell? ⟨b, 1, none⟩ = some v := (by rw [Lib.cell_of_heap hb2]; rfl); have f1 : w2.frozen? ⟨b, 1, none⟩ = false := Lib.frozen_of_heap hb2 1; have AF := Aside0.mk FIN; clear FIN hb2 hg1 hown1))
  go_returns
  exact ⟨rfl, AF.out⟩
end Go.Proofs.YtdhfjaekhibaaaaDoor
