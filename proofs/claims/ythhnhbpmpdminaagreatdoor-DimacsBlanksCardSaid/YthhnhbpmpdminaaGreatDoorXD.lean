/-
Several texts as one: Bldy Bwy.
-/
import Derived.Test.YthhnhbpmpdminaaGreatDoorPlan
import Derived.Test.YthhnhbpmpdminaaGreatDoorLay0
import Derived.Shelf.Strings.Builder1
/-
-/
namespace Go.Proofs.YthhnhbpmpdminaaGreatDoor
set_option maxRecDepth 4096
open Go.RowKit Go.Shelf Go.Proofs.YthhnhbpmpdminaaGreatDoorW.PrintWords

def bldRen : Go.Shelf.Ren := ⟨fun | 169 => 55 | n => n, fun | 70 => 94 | 9 => 9 | 0 => 0 | 72 => 97 | 37 => 95 | 127 => 159 | 3 => 3 | 5 => 5 | n => n, fun | n => n⟩
theorem bldLays : Go.Proofs.Lays.n169 Tryz.prog bldRen := {
  mixed := by kernel_rfl
  f169 := Tryz.func55.trans (congrArg some (by kernel_rfl))
  t0 := Tryz.underlying0
  a0 := Tryz.isAgg0
  z0 := Tryz.sizeOf0
  v0 := Tryz.zeroValue0
  t3 := Tryz.underlying3
  a3 := Tryz.isAgg3
  z3 := Tryz.sizeOf3
  v3 := Tryz.zeroValue3
  t9 := Tryz.underlying9
  a9 := Tryz.isAgg9
  z9 := Tryz.sizeOf9
  v9 := Tryz.zeroValue9
  t37 := Tryz.underlying95
  a37 := Tryz.isAgg95
  z37 := Tryz.sizeOf95
  v37 := Tryz.zeroValue95
  t70 := Tryz.underlying94
  a70 := Tryz.isAgg94
  z70 := Tryz.sizeOf94
  v70 := Tryz.zeroValue94
  t72 := Tryz.underlying97
  a72 := Tryz.isAgg97
  z72 := Tryz.sizeOf97
  v72 := Tryz.zeroValue97
  t127 := Tryz.underlying159
  a127 := Tryz.isAgg159
  z127 := Tryz.sizeOf159
  v127 := Tryz.zeroValue159 }
theorem bldExtra : Builder.Extra Tryz.prog bldRen := {
  sizeBuilder := by kernel_rfl
  liesBuilder := by kernel_rfl
  t5 := Tryz.underlying5
  a5 := Tryz.isAgg5
  z5 := Tryz.sizeOf5
  v5 := Tryz.zeroValue5
  infoByte := by kernel_rfl
  cellsByte := by kernel_rfl
  sizeByte := by kernel_rfl
  neB5 := by decide }

/-- A builder at block b, made since B, that holds these bytes. -/
def Bd (w : World) (B b : Nat) (l : List UInt8) : Prop := Lib.IsBuilder 97 5 B b (Lib.byteCells l) w
/-- .. written on. -/
def Bu (w : World) (B b : Nat) (l : List UInt8) : Prop := Lib.BuilderAt 97 5 B b (.pointer (some ⟨b, 0, none⟩)) (Lib.byteCells l) w
theorem Bu.bd {w : World} {B b : Nat} {l : List UInt8} (h : Bu w B b l) : Bd w B b l := .inr h

theorem string_any (B b : Nat) (l : List UInt8) (w : World) (h : Bd w B b l) (hB : B ≤ w.heap.size) :
    Calls Tryz.prog 55 #[.pointer (some ⟨b, 0, none⟩)] w fun e w' => e = .returned (.string ⟨l.toArray⟩) ∧ Below B w w' :=
  Any.Builder_String_any bldLays bldExtra B b l w h hB

/-- Blocks that a builder may write: its own, and rows of bytes. -/
def BS (B : Nat) (w : World) (k : Nat) : Prop := B ≤ k ∧ ∃ l, Cells w k 97 l ∨ Cells w k 5 l
theorem BS.trans {B : Nat} {a b c : World} (h : Mod (BS B a) a b) (k : Mod (BS B b) b c) : Mod (BS B a) a c :=
  ⟨k.os.trans h.os, k.tape.trans h.tape, k.output.trans h.output, Nat.le_trans h.size k.size, fun i hi hs => by
    have e := h.keep i hi hs
    refine (k.keep i (Nat.lt_of_lt_of_le hi h.size) (fun ⟨hB, l, hl⟩ => hs ⟨hB, l, ?_⟩)).trans e
    rcases hl with hl | hl
    · exact .inl (e.symm.trans hl)
    · exact .inr (e.symm.trans hl)⟩
theorem BS.of {B : Nat} {a b : World} (h : Mod (fun _ => False) a b) : Mod (BS B a) a b := h.mono (fun _ _ q => q.elim)
theorem BS.below {B : Nat} {a b : World} (h : Mod (BS B a) a b) (hB : B ≤ a.heap.size) : Below B a b := h.belowB (fun _ q => q.1) hB
/-- A block of another type is kept. -/
theorem BS.cells {B : Nat} {a b : World} (h : Mod (BS B a) a b) {k t : Nat} {l : List Value} (hc : Cells a k t l) (h1 : t ≠ 97) (h2 : t ≠ 5) : Cells b k t l :=
  hc.keep h (fun ⟨_, l', hl⟩ => by
    rcases hl with hl | hl
    · exact h1 (hc.ty hl).1
    · exact h2 (hc.ty hl).1)
theorem Bd.keep {w w' : World} {B b : Nat} {l : List UInt8} (h : Bd w B b l) (hm : Mod (fun _ => False) w w') : Bd w' B b l := by
  have key : ∀ p, Lib.BuilderAt 97 5 B b p (Lib.byteCells l) w → Lib.BuilderAt 97 5 B b p (Lib.byteCells l) w' := by
    rintro p ⟨h1, v, h2, h3, h4⟩
    exact ⟨h1, v, (hm.keep b (Array.getElem?_eq_some_iff.1 h2).1 (fun q => q)).trans h2, own_keep h3 hm (fun _ _ q => q), h4⟩
  rcases h with h | h
  · exact .inl (key _ h)
  · exact .inr (key _ h)

set_option maxHeartbeats 1000000 in
theorem copy_any (B b : Nat) (l : List UInt8) (w : World) (h : Bd w B b l) :
    Calls Tryz.prog 86 #[.pointer (some ⟨b, 0, none⟩)] w fun e w' => e = .returned (.tuple #[]) ∧ Bu w' B b l ∧ Mod (BS B w) w w' := by
  rcases h with h | h
  · have h0 := h.cell0
    have hsh := h.shape
    have hfz := h.frozen0
    have hlt := h.lt
    have hB := h.1
    obtain ⟨_, v, hbk, _⟩ := id h
    have H := Aside0.mk h
    have HK := Aside0.mk hbk
    clear h hbk
    obtain ⟨j, hj, hjs⟩ : ∃ j, Tryz.prog.info? 97 = some j ∧ j.size = 2 := Option.map_eq_some_iff.1 (show (Tryz.prog.info? 97).map (·.size) = some 2 by kernel_rfl)
    go_enter Tryz.func86, Tryz.ntmps86
    go_wp2
    rw [Lib.run_to_unsafe w ⟨b, 0, none⟩ Tryz.underlying94 Tryz.underlying147 hj (by rw [hjs]; decide) hsh (Nat.zero_lt_succ 1)]
    simp only [Result.andThen]
    rw [Oper.upon_value]
    go_wp2
    rw [run_callFunc_extern Tryz.func111 (by kernel_rfl) (by kernel_rfl) (by kernel_rfl) (e := Extern.AbiNoEscape.same) (by kernel_rfl)]
    rw [Lib.run_noEscape]
    simp only [Result.andThen]
    rw [Oper.upon_value]
    go_wp2
    rw [Lib.run_from_unsafe w ⟨b, 0, none⟩ Tryz.underlying147 Tryz.underlying94 hj hsh (by kernel_rfl)]
    simp only [Result.andThen]
    rw [Oper.upon_value]
    go_wp2
    go_end0
    exact ⟨rfl, H.out.used _, Mod.setCell (p := ⟨b, 0, none⟩) (Mod.refl _ w) (.inl ⟨hB, _, .inl (by simpa [Cells] using HK.out)⟩) _⟩
  · have h0 := h.cell0
    have H := Aside0.mk h
    clear h
    obtain ⟨j, hj, hjs⟩ : ∃ j, Tryz.prog.info? 97 = some j ∧ j.size = 2 := Option.map_eq_some_iff.1 (show (Tryz.prog.info? 97).map (·.size) = some 2 by kernel_rfl)
    go_enter Tryz.func86, Tryz.ntmps86
    go_wp2
    rw [Lib.run_neq_ptr_same w _ Tryz.underlying94 hj]
    go_wp2
    go_end0
    exact ⟨rfl, H.out, Mod.refl _ _⟩
end Go.Proofs.YthhnhbpmpdminaaGreatDoor
/-
A builder written on: WriteByte, WriteString. Conditions: how long the text may become.
-/
namespace Go.Proofs.YthhnhbpmpdminaaGreatDoor
set_option maxRecDepth 4096
open Go.RowKit Go.Shelf Go.Proofs.YthhnhbpmpdminaaGreatDoorW.PrintWords

theorem Tryz.infoU8 : (Tryz.prog.info? 5).map (fun i => (i.zero, i.size, i.bytes)) = some (some (.int .u8 0), 1, 1) := by kernel_rfl

/-- The builder's buffer grown, and laid into its field again. -/
theorem bu_put {w0 w1 W w2 : World} {B b n cap : Nat} {A : Option Addr} {v : Value} {l l' : List UInt8} (hB : B ≤ b) (hm : Mod (BS B w0) w0 w1) (hbk : w1.heap[b]? = some (.cells #[.pointer (some ⟨b, 0, none⟩), v] 97 (0, 0)))
    (hown : w1.ownsRow B 5 1 v l.length (Lib.byteCells l)) (hne : v.ownBlock ≠ some b) (hW : Mod (fun _ => False) w1 W) (hg : W.grownBy w2 v.ownBlock) (hr : w2.ownsRow B 5 1 (.slice A n cap) (l ++ l').length (Lib.byteCells (l ++ l'))) :
    w2.heap[b]? = some (.cells #[.pointer (some ⟨b, 0, none⟩), v] 97 (0, 0)) ∧
    (Bu (w2.setCell ⟨b, 1, none⟩ (.slice A n cap)) B b (l ++ l') ∧ Mod (BS B w0) w0 (w2.setCell ⟨b, 1, none⟩ (.slice A n cap))) := by
  have hlt : b < w1.heap.size := (Array.getElem?_eq_some_iff.1 hbk).1
  have hb2 : w2.heap[b]? = some (.cells #[.pointer (some ⟨b, 0, none⟩), v] 97 (0, 0)) := by
    rw [hg.block b (Nat.lt_of_lt_of_le hlt hW.size) (fun e => hne e.symm), hW.keep b hlt (fun q => q)]
    exact hbk
  refine ⟨hb2, ?_, ?_⟩
  · exact Lib.BuilderAt.put (T := 97) (e := 5) hB hb2 (bs' := Lib.byteCells (l ++ l')) (by rw [Lib.byteCells_length]; exact hr) (by decide)
  · have k1 : Mod (BS B w1) w1 (w2.setCell ⟨b, 1, none⟩ (.slice A n cap)) := by
      refine ((BS.of hW).grown hg (fun k hk => ?_)).setCell (p := ⟨b, 1, none⟩) (.inl ⟨hB, _, .inl (by simpa [Cells] using hbk)⟩) _
      obtain ⟨l1, hl1⟩ := own_cells hown k hk
      exact .inl ⟨own_base_le hown k hk, l1, .inr hl1⟩
    exact BS.trans hm k1

set_option maxHeartbeats 1000000 in
theorem wstring_any (B b : Nat) (l : List UInt8) (s : ByteArray) (w : World) (h : Bd w B b l) (hlen : l.length + s.size ≤ 140737488355328) (hBw : B ≤ w.heap.size) :
    Calls Tryz.prog 52 #[.pointer (some ⟨b, 0, none⟩), .string s] w fun e w' => e = .returned (.tuple #[.int .i64 s.size, .nilIface]) ∧ Bu w' B b (l ++ s.data.toList) ∧ Mod (BS B w) w w' := by
  have H := Aside0.mk h
  clear h
  obtain ⟨i0, hi, hz⟩ := Option.map_eq_some_iff.1 Tryz.infoU8
  simp only [Prod.mk.injEq] at hz
  obtain ⟨hz0, hz1, hz2⟩ := hz
  go_enter Tryz.func52, Tryz.ntmps52
  go_wp2_with fail
  refine (copy_any B b l w H.out).mono ?_
  rintro e w1 ⟨rfl, hu, hm⟩
  obtain ⟨hB, v, hbk, hown, hne⟩ := hu
  rw [Lib.byteCells_length] at hown
  have c1 : w1.cell? ⟨b, 1, none⟩ = some v := by rw [Lib.cell_of_heap hbk]; rfl
  have AK := Aside0.mk hbk
  have AO := Aside0.mk hown
  have AM := Aside0.mk hm
  have hbz : B ≤ w1.heap.size := Nat.le_trans hBw hm.size
  clear hbk hown hm
  go_wp2_with (at_builtin; (refine Lib.wpList_append_own_string _ rfl _ _ 95 9 rfl B 5 i0 Tryz.underlying95 Tryz.underlying9 hi hz0 hz1 hz2 v l.length (Lib.byteCells l) rfl AO.out s rfl (by unfold maxLen; omega) (by omega) hbz ?_; intro v1 w2 hown1 hg1 _; obtain ⟨A1, n1, cap1, rfl⟩ : ∃ ao n' cap, v1 = .slice ao n' cap := (by rcases hown1.2 with ⟨hv, _⟩ | ⟨g, cap, cur, hv, _⟩ <;> exact ⟨_, _, _, hv⟩); obtain ⟨hb2, FIN⟩ := bu_put (l' := s.data.toList) hB AM.out AK.out AO.out hne (Mod.refl _ w1) hg1 (by rw [Lib.byteCells_append, List.length_append, Array.length_toList]; exact hown1); have d1 : w2.cell? ⟨b, 1, none⟩ = some v := (by rw [Lib.cell_of_heap hb2]; rfl); have f1 : w2.frozen? ⟨b, 1, none⟩ = false := Lib.frozen_of_heap hb2 1; have AF := Aside0.mk FIN; clear FIN hb2 hg1 hown1))
  go_returns
  exact ⟨rfl, AF.out⟩
end Go.Proofs.YthhnhbpmpdminaaGreatDoor
