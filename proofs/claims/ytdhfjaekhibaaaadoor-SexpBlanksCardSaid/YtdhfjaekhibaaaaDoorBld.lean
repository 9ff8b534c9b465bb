/-
A builder of text: WriteByte, WriteString, String. Conditions: how long the text may become.
-/
import Derived.Test.YtdhfjaekhibaaaaDoorPlan
import Derived.Test.YtdhfjaekhibaaaaDoorLay
import Derived.Shelf.Strings.Builder1
namespace Go.Proofs.YtdhfjaekhibaaaaDoor
set_option maxRecDepth 4096
open Go.RowKit Go.Shelf Go.Proofs.YtdhfjaekhibaaaaDoorW.PrintWords

def bldRen : Go.Shelf.Ren := ⟨fun | 169 => 31 | n => n, fun | 70 => 66 | 9 => 9 | 0 => 0 | 72 => 69 | 37 => 67 | 127 => 90 | 3 => 3 | 5 => 5 | n => n, fun | n => n⟩
theorem bldLays : Go.Proofs.Lays.n169 Tryd.prog bldRen := {
  mixed := by kernel_rfl
  f169 := Tryd.func31.trans (congrArg some (by kernel_rfl))
  t0 := Tryd.underlying0
  a0 := Tryd.isAgg0
  z0 := Tryd.sizeOf0
  v0 := Tryd.zeroValue0
  t3 := Tryd.underlying3
  a3 := Tryd.isAgg3
  z3 := Tryd.sizeOf3
  v3 := Tryd.zeroValue3
  t9 := Tryd.underlying9
  a9 := Tryd.isAgg9
  z9 := Tryd.sizeOf9
  v9 := Tryd.zeroValue9
  t37 := Tryd.underlying67
  a37 := Tryd.isAgg67
  z37 := Tryd.sizeOf67
  v37 := Tryd.zeroValue67
  t70 := Tryd.underlying66
  a70 := Tryd.isAgg66
  z70 := Tryd.sizeOf66
  v70 := Tryd.zeroValue66
  t72 := Tryd.underlying69
  a72 := Tryd.isAgg69
  z72 := Tryd.sizeOf69
  v72 := Tryd.zeroValue69
  t127 := Tryd.underlying90
  a127 := Tryd.isAgg90
  z127 := Tryd.sizeOf90
  v127 := Tryd.zeroValue90 }
theorem bldExtra : Builder.Extra Tryd.prog bldRen := {
  sizeBuilder := by kernel_rfl
  liesBuilder := by kernel_rfl
  t5 := Tryd.underlying5
  a5 := Tryd.isAgg5
  z5 := Tryd.sizeOf5
  v5 := Tryd.zeroValue5
  infoByte := by kernel_rfl
  cellsByte := by kernel_rfl
  sizeByte := by kernel_rfl
  neB5 := by decide }

/-- A builder at block b, made since B, that holds these bytes. -/
def Bd (w : World) (B b : Nat) (l : List UInt8) : Prop := Lib.IsBuilder 69 5 B b (Lib.byteCells l) w
/-- .. written on. -/
def Bu (w : World) (B b : Nat) (l : List UInt8) : Prop := Lib.BuilderAt 69 5 B b (.pointer (some ⟨b, 0, none⟩)) (Lib.byteCells l) w
theorem Bu.bd {w : World} {B b : Nat} {l : List UInt8} (h : Bu w B b l) : Bd w B b l := .inr h

theorem string_any (B b : Nat) (l : List UInt8) (w : World) (h : Bd w B b l) (hB : B ≤ w.heap.size) :
    Calls Tryd.prog 31 #[.pointer (some ⟨b, 0, none⟩)] w fun e w' => e = .returned (.string ⟨l.toArray⟩) ∧ Below B w w' :=
  Any.Builder_String_any bldLays bldExtra B b l w h hB

/-- Blocks that a builder may write: its own, and rows of bytes. -/
def BS (B : Nat) (w : World) (k : Nat) : Prop := B ≤ k ∧ ∃ l, Cells w k 69 l ∨ Cells w k 5 l
theorem BS.trans {B : Nat} {a b c : World} (h : Mod (BS B a) a b) (k : Mod (BS B b) b c) : Mod (BS B a) a c :=
  ⟨k.os.trans h.os, k.tape.trans h.tape, k.output.trans h.output, Nat.le_trans h.size k.size, fun i hi hs => by
    have e := h.keep i hi hs
    refine (k.keep i (Nat.lt_of_lt_of_le hi h.size) (fun ⟨hB, l, hl⟩ => hs ⟨hB, l, ?_⟩)).trans e
    rcases hl with hl | hl
    · exact .inl (e.symm.trans hl)
    · exact .inr (e.symm.trans hl)⟩
theorem BS.of {B : Nat} {a b : World} (h : Mod (fun _ => False) a b) : Mod (BS B a) a b := h.mono (fun _ _ q => q.elim)
theorem BS.below {B : Nat} {a b : World} (h : Mod (BS B a) a b) (hB : B ≤ a.heap.size) : Below B a b := h.belowB (fun _ q => q.1) hB
/-- A block of another type is kept. -/
theorem BS.cells {B : Nat} {a b : World} (h : Mod (BS B a) a b) {k t : Nat} {l : List Value} (hc : Cells a k t l) (h1 : t ≠ 69) (h2 : t ≠ 5) : Cells b k t l :=
  hc.keep h (fun ⟨_, l', hl⟩ => by
    rcases hl with hl | hl
    · exact h1 (hc.ty hl).1
    · exact h2 (hc.ty hl).1)
theorem Bd.keep {w w' : World} {B b : Nat} {l : List UInt8} (h : Bd w B b l) (hm : Mod (fun _ => False) w w') : Bd w' B b l := by
  have key : ∀ p, Lib.BuilderAt 69 5 B b p (Lib.byteCells l) w → Lib.BuilderAt 69 5 B b p (Lib.byteCells l) w' := by
    rintro p ⟨h1, v, h2, h3, h4⟩
    exact ⟨h1, v, (hm.keep b (Array.getElem?_eq_some_iff.1 h2).1 (fun q => q)).trans h2, own_keep h3 hm (fun _ _ q => q), h4⟩
  rcases h with h | h
  · exact .inl (key _ h)
  · exact .inr (key _ h)

set_option maxHeartbeats 1000000 in
theorem copy_any (B b : Nat) (l : List UInt8) (w : World) (h : Bd w B b l) :
    Calls Tryd.prog 51 #[.pointer (some ⟨b, 0, none⟩)] w fun e w' => e = .returned (.tuple #[]) ∧ Bu w' B b l ∧ Mod (BS B w) w w' := by
  rcases h with h | h
  · have h0 := h.cell0
    have hsh := h.shape
    have hfz := h.frozen0
    have hlt := h.lt
    have hB := h.1
    obtain ⟨_, v, hbk, _⟩ := id h
    have H := Aside0.mk h
    have HK := Aside0.mk hbk
    clear h hbk
    obtain ⟨j, hj, hjs⟩ : ∃ j, Tryd.prog.info? 69 = some j ∧ j.size = 2 := Option.map_eq_some_iff.1 (show (Tryd.prog.info? 69).map (·.size) = some 2 by kernel_rfl)
    go_enter Tryd.func51, Tryd.ntmps51
    go_wp2
    rw [Lib.run_to_unsafe w ⟨b, 0, none⟩ Tryd.underlying66 Tryd.underlying76 hj (by rw [hjs]; decide) hsh (Nat.zero_lt_succ 1)]
    simp only [Result.andThen]
    rw [Oper.upon_value]
    go_wp2
    rw [run_callFunc_extern Tryd.func53 (by kernel_rfl) (by kernel_rfl) (by kernel_rfl) (e := Extern.AbiNoEscape.same) (by kernel_rfl)]
    rw [Lib.run_noEscape]
    simp only [Result.andThen]
    rw [Oper.upon_value]
    go_wp2
    rw [Lib.run_from_unsafe w ⟨b, 0, none⟩ Tryd.underlying76 Tryd.underlying66 hj hsh (by kernel_rfl)]
    simp only [Result.andThen]
    rw [Oper.upon_value]
    go_wp2
    go_end0
    exact ⟨rfl, H.out.used _, Mod.setCell (p := ⟨b, 0, none⟩) (Mod.refl _ w) (.inl ⟨hB, _, .inl (by simpa [Cells] using HK.out)⟩) _⟩
  · have h0 := h.cell0
    have H := Aside0.mk h
    clear h
    obtain ⟨j, hj, hjs⟩ : ∃ j, Tryd.prog.info? 69 = some j ∧ j.size = 2 := Option.map_eq_some_iff.1 (show (Tryd.prog.info? 69).map (·.size) = some 2 by kernel_rfl)
    go_enter Tryd.func51, Tryd.ntmps51
    go_wp2
    rw [Lib.run_neq_ptr_same w _ Tryd.underlying66 hj]
    go_wp2
    go_end0
    exact ⟨rfl, H.out, Mod.refl _ _⟩
end Go.Proofs.YtdhfjaekhibaaaaDoor
