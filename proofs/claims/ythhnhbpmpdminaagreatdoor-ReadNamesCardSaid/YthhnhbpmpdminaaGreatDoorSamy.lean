/-
Two equal things are the same: the reference's Same. Conditions: both lie in memory.
-/
import Derived.Test.YthhnhbpmpdminaaGreatDoorLay0
import Derived.Deep.Slices
import Derived.IntWalk
namespace Go.Proofs.YthhnhbpmpdminaaGreatDoor
set_option maxRecDepth 4096
open Go.RowKit Go.Proofs.YthhnhbpmpdminaaGreatDoorW.PrintWords Go.Proofs.YthhnhbpmpdminaaGreatDoorW.PrintLast

mutual
def Sx.dep : Sx → Nat
  | ⟨_, _, ks⟩ => Sx.depL ks + 1
def Sx.depL : List Sx → Nat
  | [] => 0
  | k :: r => max k.dep (Sx.depL r)
end
theorem Sx.dep_eq (x : Sx) : x.dep = Sx.depL x.kids + 1 := by cases x; rfl
theorem Sx.depL_mem {l : List Sx} : ∀ {k : Sx}, k ∈ l → k.dep ≤ Sx.depL l := by
  induction l with
  | nil => intro k h; cases h
  | cons a r ih =>
    intro k h
    unfold Sx.depL
    rcases List.mem_cons.1 h with rfl | h
    · omega
    · have := ih h; omega

/-- A thing's kid, read. -/
theorem RL_kid {w : World} {S : Nat → Prop} {A : Option Addr} {ks : List Sx} (h : RL w S ks A 0) (i : Nat) (hi : i < ks.length) : ∃ ad A' c', A = some ad ∧ S ad.block ∧
    RT w S ks[i] [.string ks[i].word, .bool ks[i].list, .slice A' ks[i].kids.length c'] ∧ RL w S ks[i].kids A' 0 ∧
    w.cell? (ad.add (i * 3)) = some (.string ks[i].word) ∧ w.cell? ⟨(ad.add (i * 3)).block, (ad.add (i * 3)).off + 1, none⟩ = some (.bool ks[i].list) ∧ w.cell? ⟨(ad.add (i * 3)).block, (ad.add (i * 3)).off + 2, none⟩ = some (.slice A' ks[i].kids.length c') := by
  obtain ⟨ad, cs, h1, h2, h3, h4⟩ := RL_get ks 0 h i ks[i] (List.getElem?_eq_getElem hi)
  obtain ⟨A', c', rfl, h5, h6, h7, h8⟩ := RT_cells h4
  refine ⟨ad, A', c', h1, h2, h4, h8, ?_, ?_, ?_⟩
  · have := h3 0 _ rfl; simpa using this
  · have := h3 1 _ rfl
    rw [show (⟨(ad.add (i * 3)).block, (ad.add (i * 3)).off + 1, none⟩ : Addr) = (ad.add (i * 3)).add 1 from rfl, add_add]; simpa using this
  · have := h3 2 _ rfl
    rw [show (⟨(ad.add (i * 3)).block, (ad.add (i * 3)).off + 2, none⟩ : Addr) = (ad.add (i * 3)).add 2 from rfl, add_add]; simpa using this

theorem RL_none {w : World} {S : Nat → Prop} {ks : List Sx} (h : RL w S ks none 0) : ks.length = 0 := by
  cases ks with
  | nil => rfl
  | cons k r => unfold RL at h; obtain ⟨⟨ad, _, h1, _⟩, _⟩ := h; cases h1

theorem Mod.cell {w w' : World} (hm : Mod (fun _ => False) w w') {p : Addr} {v : Value} (h : w.cell? p = some v) : w'.cell? p = some v := by
  have hb : p.block < w.heap.size := by
    by_cases hb : p.block < w.heap.size
    · exact hb
    · unfold World.cell? at h
      rw [Array.getElem?_eq_none (by omega)] at h
      cases h
  rw [World.cell?_of_block (hm.keep p.block hb (fun q => q))]; exact h
theorem Mod.RT {w w' : World} (hm : Mod (fun _ => False) w w') {x : Sx} {cs : List Value} (h : RT w (fun k => k < w.heap.size) x cs) : RT w' (fun k => k < w'.heap.size) x cs :=
  RT_move (fun k hk => hm.keep k hk (fun q => q)) (fun _ hk => Nat.lt_of_lt_of_le hk hm.size) x cs h
theorem Mod.RL {w w' : World} (hm : Mod (fun _ => False) w w') {ks : List Sx} {A : Option Addr} {j : Nat} (h : RL w (fun k => k < w.heap.size) ks A j) : RL w' (fun k => k < w'.heap.size) ks A j :=
  RL_move (fun k hk => hm.keep k hk (fun q => q)) (fun _ hk => Nat.lt_of_lt_of_le hk hm.size) ks A j h

end Go.Proofs.YthhnhbpmpdminaaGreatDoor
