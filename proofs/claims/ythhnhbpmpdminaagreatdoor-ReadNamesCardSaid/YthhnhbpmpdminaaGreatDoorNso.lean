/-
Sorts: what a thing says, and the program's Sort. Conditions: none.
-/
import Derived.Test.YthhnhbpmpdminaaGreatDoorNnr
import Derived.Test.YthhnhbpmpdminaaGreatDoorSamy
namespace Go.Proofs.YthhnhbpmpdminaaGreatDoor
open Go.RowKit Go.Proofs.YthhnhbpmpdminaaGreatDoorW.PrintWords
set_option maxRecDepth 4096

def isW (x : Sx) (l : List UInt8) : Bool := !x.list && x.word.data.toList == l
def srtE : Value := .tuple #[.int .i64 0, .int .i64 53]
def srtN (o : Option Nat) : Value := match o with
  | some n => if 1 ≤ n ∧ n ≤ 128 then .tuple #[.int .i64 (n : Int), .int .i64 0] else srtE
  | none => srtE
def sortR (most : Nat) (x : Sx) : Value := match x.kids with
  | [a, b, c] => if x.list && isW a [95] && isW b [66, 105, 116, 86, 101, 99] && !c.list then srtN (numO most c.word.data.toList) else srtE
  | _ => srtE
def sortV (most : Nat) (x : Sx) : Value := if isW x [66, 111, 111, 108] then .tuple #[.int .i64 0, .int .i64 0] else sortR most x
theorem sortR_leaf {most : Nat} {x : Sx} (h : x.list = false) : sortR most x = srtE := by
  unfold sortR
  split
  · rw [h]; rfl
  · rfl
theorem sortR_len {most : Nat} {x : Sx} (h : x.kids.length ≠ 3) : sortR most x = srtE := by
  unfold sortR
  split
  · rename_i hk; rw [hk] at h; exact absurd rfl h
  · rfl
theorem sortR_three {most : Nat} {x : Sx} (h : x.kids.length = 3) (hl : x.list = true) : sortR most x = if isW (x.kids[0]'(by omega)) [95] && isW (x.kids[1]'(by omega)) [66, 105, 116, 86, 101, 99] && !(x.kids[2]'(by omega)).list then srtN (numO most (x.kids[2]'(by omega)).word.data.toList) else srtE := by
  obtain ⟨w, l, ks⟩ := x
  match ks, h, hl with
  | [a, b, c], _, hl =>
    simp only at hl
    subst hl
    unfold sortR
    simp only [Bool.true_and]
    rfl
theorem kid_at {w : World} {S : Nat → Prop} {ad : Addr} {ks : List Sx} (h : RL w S ks (some ad) 0) (i : Nat) (hi : i < ks.length) : ∃ A' c', RT w S ks[i] [.string ks[i].word, .bool ks[i].list, .slice A' ks[i].kids.length c'] ∧
    w.cell? (ad.add (i * 3)) = some (.string ks[i].word) ∧ w.cell? ⟨(ad.add (i * 3)).block, (ad.add (i * 3)).off + 1, none⟩ = some (.bool ks[i].list) ∧ w.cell? ⟨(ad.add (i * 3)).block, (ad.add (i * 3)).off + 2, none⟩ = some (.slice A' ks[i].kids.length c') := by
  obtain ⟨ad', A', c', h1, _, h3, _, h5, h6, h7⟩ := RL_kid h i hi
  cases h1
  exact ⟨A', c', h3, h5, h6, h7⟩

theorem rdword_any (x : Sx) (c : List Value) (t : ByteArray) (W : World) (hc : RT W (fun k => k < W.heap.size) x c) : Calls Tryz.prog 64 #[.agg c.toArray, .string t] W fun e W' => e = .returned (.bool (isW x t.data.toList)) ∧ Below W.heap.size W W' := by
  obtain ⟨A, k, rfl, hk, hm, hws, hR⟩ := RT_cells hc
  clear hc hR
  have HV : Aside0 (isW x t.data.toList = (!x.list && x.word.data.toList == t.data.toList)) := ⟨rfl⟩
  cases hx : x.list with
  | true =>
    go_enter Tryz.func64, Tryz.ntmps64
    go_wp2_with fail
    go_returns
    exact ⟨by rw [HV.out, hx]; rfl, ((Mod.refl (fun _ => False) W).alloc _).below⟩
  | false =>
    go_enter Tryz.func64, Tryz.ntmps64
    go_wp2_with fail
    all_goals (
      go_returns
      refine ⟨?_, ((Mod.refl (fun _ => False) W).alloc _).below⟩
      rw [HV.out, hx]
      simp [ByteArray.toList_eq])
theorem rfis_any (x : Sx) (c : List Value) (t : ByteArray) (W : World) (hc : RT W (fun k => k < W.heap.size) x c) : Calls Tryz.prog 66 #[.agg c.toArray, .string t] W fun e W' => e = .returned (.bool (isW x t.data.toList)) ∧ Below W.heap.size W W' := by
  obtain ⟨A, k, rfl, hk, hm, hws, hR⟩ := RT_cells hc
  clear hc hR
  have HV : Aside0 (isW x t.data.toList = (!x.list && x.word.data.toList == t.data.toList)) := ⟨rfl⟩
  cases hx : x.list with
  | true =>
    go_enter Tryz.func66, Tryz.ntmps66
    go_wp2_with fail
    go_returns
    exact ⟨by rw [HV.out, hx]; rfl, ((Mod.refl (fun _ => False) W).alloc _).below⟩
  | false =>
    go_enter Tryz.func66, Tryz.ntmps66
    go_wp2_with fail
    all_goals (
      go_returns
      refine ⟨?_, ((Mod.refl (fun _ => False) W).alloc _).below⟩
      rw [HV.out, hx]
      simp [ByteArray.toList_eq])
theorem decFrom_ge (l : List UInt8) : ∀ acc n, Lib.decFrom acc l = some n → acc * 10 ^ l.length ≤ n := by
  induction l with
  | nil => intro acc n h; simp [Lib.decFrom] at h; simp [h]
  | cons b r ih =>
    intro acc n h
    simp only [Lib.decFrom] at h
    split at h
    · rename_i d hd
      have := ih _ _ h
      rw [List.length_cons, Nat.pow_succ]
      have e : acc * (10 ^ r.length * 10) = (acc * 10) * 10 ^ r.length := by rw [Nat.mul_comm (10 ^ r.length) 10, Nat.mul_assoc]
      rw [e]
      exact Nat.le_trans (Nat.mul_le_mul_right _ (Nat.le_add_right _ _)) this
    · cases h
theorem srtN_eq (l : List UInt8) : srtN (numO 3 l) = srtN (numO 9 l) := by
  by_cases h3 : l.length ≤ 3
  · have : numO 3 l = numO 9 l := by
      unfold numO
      by_cases h : ¬ (1 < l.length ∧ l[0]? = some 48)
      · rw [if_pos ⟨h3, h⟩, if_pos ⟨by omega, h⟩]
      · rw [if_neg (fun q => h q.2), if_neg (fun q => h q.2)]
    rw [this]
  · have e3 : numO 3 l = none := by unfold numO; rw [if_neg (fun q => h3 q.1)]
    rw [e3]
    cases h9 : numO 9 l with
    | none => rfl
    | some n =>
      unfold numO at h9
      split at h9
      · rename_i h
        obtain ⟨h1, h2⟩ := Lib.decNat_some h9
        cases l with
        | nil => exact absurd rfl h1
        | cons b r =>
          simp only [Lib.decFrom] at h2
          split at h2
          · rename_i d hd
            have hb := Lib.digitVal_eq hd
            have hne : b.toNat ≠ 48 := fun e => h.2 ⟨by omega, by
              have : b = 48 := UInt8.toNat_inj.1 (by simpa using e)
              simp [this]⟩
            have hge := decFrom_ge r _ _ h2
            have hp : 10 ^ 3 ≤ 10 ^ r.length := Nat.pow_le_pow_right (by omega) (by simp at h3; omega)
            have : 1 * 10 ^ 3 ≤ (0 * 10 + d) * 10 ^ r.length := Nat.mul_le_mul (by omega) hp
            have : 1000 ≤ n := by omega
            unfold srtN
            simp only []
            rw [if_neg (by omega)]
          · cases h2
      · cases h9
theorem sortV_eq (x : Sx) : sortV 3 x = sortV 9 x := by
  unfold sortV
  split
  · rfl
  · unfold sortR
    split
    · rw [srtN_eq]
    · rfl
end Go.Proofs.YthhnhbpmpdminaaGreatDoor
