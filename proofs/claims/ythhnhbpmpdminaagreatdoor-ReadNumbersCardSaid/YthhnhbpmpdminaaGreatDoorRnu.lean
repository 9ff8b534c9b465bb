/-
read.numeral, at nine digits and at many. Conditions: strconv's variable holds an error.
-/
import Derived.Test.YthhnhbpmpdminaaGreatDoorXM
import Derived.Test.YthhnhbpmpdminaaGreatDoorXG
namespace Go.Proofs.YthhnhbpmpdminaaGreatDoor
set_option maxRecDepth 4096
set_option maxHeartbeats 8000000
set_option linter.unusedSimpArgs false
set_option linter.unusedVariables false
set_option linter.unnecessarySimpa false
open Go.RowKit Go.Proofs.YthhnhbpmpdminaaGreatDoorW.PrintWords Go.Maps
/-- A number, or one out of range. -/
def wellN {α : Type} : Lib.NumEnd α → Bool
  | .ok _ => true
  | .range => true
  | _ => false
theorem uint_well : ∀ (l : List UInt8) (acc : Nat), (∀ b ∈ l, (Lib.digitVal b).isSome = true) → wellN (Lib.parseUint10 acc l) = true
  | [], acc, _ => rfl
  | c :: r, acc, h => by
    have hc : 48 ≤ c.toNat ∧ c.toNat ≤ 57 := by
      have := h c (by simp)
      unfold Lib.digitVal at this
      split at this
      · assumption
      · cases this
    rw [Lib.parseUint10, if_pos hc]
    split
    · rfl
    · split
      · rfl
      · exact uint_well r _ fun b hb => h b (by simp [hb])
theorem atoi_well {l : List UInt8} {n : Nat} (h : Lib.decNat l = some n) : wellN (Lib.atoiAll l) = true := by
  obtain ⟨h1, h2⟩ := Lib.decNat_some h
  cases l with
  | nil => exact absurd rfl h1
  | cons b r =>
    have hall := decFrom_all _ _ _ h2
    have hd := hall b (by simp)
    have hc : 48 ≤ b.toNat ∧ b.toNat ≤ 57 := by
      unfold Lib.digitVal at hd
      split at hd
      · assumption
      · cases hd
    unfold Lib.atoiAll
    simp only
    rw [if_neg (by omega)]
    have hp : Lib.parseMag (b :: r) = Lib.parseUint10 0 (b :: r) := by unfold Lib.parseMag; rw [if_neg (by simp)]
    rw [hp]
    have hu := uint_well (b :: r) 0 hall
    cases hq : Lib.parseUint10 0 (b :: r)
    · simp only
      split
      · rfl
      · split <;> rfl
    · rw [hq] at hu; cases hu
    · rfl
theorem Atoi_long (s : ByteArray) (n : Nat) (w : World) (hs : s.size ≤ 39) (h : Lib.decNat s.data.toList = some n) (hev : ErrV w) : Calls Tryz.prog 94 #[.string s] w fun e w' => (∃ (m : Int) (v2 : Value), e = .returned (.tuple #[.int .i64 m, v2]) ∧ (s.size ≤ 18 → m = n)) ∧ Below w.heap.size w w' := by
  by_cases h18 : s.size ≤ 18
  · refine (Atoi_any s n w h18 h).mono ?_
    rintro e w' ⟨rfl, hb⟩
    exact ⟨⟨n, .nilIface, rfl, fun _ => rfl⟩, hb⟩
  · have hwl := atoi_well h
    cases hq : Lib.atoiAll s.data.toList
    · rename_i v
      refine (show Calls Tryz.prog 94 #[.string s] w fun e w' => e = .returned (.tuple #[.int .i64 v, .nilIface]) ∧ (w' = w ∨ ∃ t, w' = Lib.bytesWorld w _ t) from Any.strconv_Atoi_ok Tryz.laysC172 s (by omega) v hq w).mono ?_
      rintro e w' ⟨rfl, hw⟩
      refine ⟨⟨v, .nilIface, rfl, fun q => absurd q h18⟩, ?_⟩
      rcases hw with rfl | ⟨t, rfl⟩
      · exact Below.refl _ _
      · exact bytes_below (Below.refl _ _) (Nat.le_refl _) _ t
    · rw [hq] at hwl; cases hwl
    · skip
      obtain ⟨ev, h1, h2⟩ := hev
      refine (show Calls Tryz.prog 94 #[.string s] w fun e w' => ∃ N, e = .returned (.tuple #[.int .i64 (Lib.atoiSat s.data.toList), .iface _ (.pointer (some ⟨N, 0, none⟩))]) ∧ w.heap.size ≤ N ∧ _ ∧ Below w.heap.size w w' from Any.strconv_Atoi_range Tryz.laysC172 s (by omega) hq ev w h1 h2).mono ?_
      rintro e w' ⟨N, rfl, _, _, hb⟩
      exact ⟨⟨_, _, rfl, fun q => absurd q h18⟩, hb⟩
theorem ErrV.below {w w' : World} (h : ErrV w) (hb : Below w.heap.size w w') : ErrV w' := by
  obtain ⟨ev, h1, h2⟩ := h
  exact ⟨ev, (World.cell?_of_block (w := w) (hb.block _ (World.block_lt_of_cell? w _ h1))).trans h1, h2⟩
def numX (most : Nat) (li : Bool) (wd : ByteArray) : Option Nat := if li then none else numO most wd.data.toList
def NumPost (most : Nat) (li : Bool) (wd : ByteArray) (e : Ending) : Prop := ∃ m : Int, e = .returned (.tuple #[.int .i64 m, .bool (numX most li wd).isSome]) ∧ ∀ n, most ≤ 18 → numX most li wd = some n → m = n
theorem NumPost.none {most : Nat} {li : Bool} {wd : ByteArray} (h : numX most li wd = none) (m : Int) : NumPost most li wd (.returned (.tuple #[.int .i64 m, .bool false])) := ⟨m, by rw [h]; rfl, fun n _ q => by rw [h] at q; cases q⟩
theorem NumPost.some {most : Nat} {li : Bool} {wd : ByteArray} {n : Nat} (h : numX most li wd = some n) (hs : wd.size ≤ most) (m : Int) (hm : wd.size ≤ 18 → m = n) : NumPost most li wd (.returned (.tuple #[.int .i64 m, .bool true])) := ⟨m, by rw [h]; rfl, fun k q1 q => by rw [h] at q; cases q; exact hm (by omega)⟩
theorem numeralG_any (most : Nat) (h39 : most ≤ 39) (wd : ByteArray) (li : Bool) (kA : Option Addr) (kl kc : Nat) (W : World) (hws : wd.size ≤ 9223372036854775807) (hev : ErrV W) :
    Calls Tryz.prog 65 #[.agg #[.string wd, .bool li, .slice kA kl kc], .int .i64 (most : Int)] W fun e W' => NumPost most li wd e ∧ Below W.heap.size W W' := by
  have hl : wd.data.toList.length = wd.size := by rw [Array.length_toList]; rfl
  have HEV := Aside0.mk hev
  clear hev
  cases li with
  | true =>
    have HX : Aside0 (numX most true wd = none) := ⟨rfl⟩
    go_enter Tryz.func65, Tryz.ntmps65
    go_wp2_with fail
    go_returns
    exact ⟨NumPost.none HX.out _, ((Mod.refl (fun _ => False) W).alloc _).below⟩
  | false =>
    have HX : Aside0 (numX most false wd = numO most wd.data.toList) := ⟨rfl⟩
    by_cases hp : wd.data.toList ≠ [] ∧ wd.data.toList.length ≤ most ∧ ¬ (1 < wd.data.toList.length ∧ wd.data.toList[0]? = some 48)
    · obtain ⟨p1, p2, p3⟩ := hp
      have HN : Aside0 (numO most wd.data.toList = Lib.decNat wd.data.toList) := ⟨by unfold numO; rw [if_pos ⟨p2, p3⟩]⟩
      have h0 : 0 < wd.size := by
        rcases Nat.eq_zero_or_pos wd.size with e | e
        · exact absurd (List.length_eq_zero_iff.1 (by omega)) p1
        · exact e
      have hg : wd.data.toList[0]? = some wd[0] := List.getElem?_eq_some_iff.2 ⟨by omega, rfl⟩
      have q1 : (wd.toList = []) ↔ False := by rw [ByteArray.toList_eq]; simpa using p1
      have q2 : (wd.size : Int) ≤ (most : Int) := by omega
      have q3 : ¬ ((wd[0].toNat : Int) = 48 ∧ 1 < (wd.size : Int)) := fun ⟨a, b⟩ => p3 ⟨by omega, by rw [hg]; exact congrArg some (UInt8.toNat_inj.1 (show wd[0].toNat = 48 by omega))⟩
      have HT := Aside0.mk (trim_digits p1)
      have P1 := Aside0.mk p1
      have P2 : Aside0 (wd.size ≤ most) := ⟨by omega⟩
      have Q3 := Aside0.mk q3
      have Q1 := Aside0.mk q1
      clear p1 p2 p3 hg q3 q1
      go_enter Tryz.func65, Tryz.ntmps65
      go_wp2_with fail
      all_goals first
        | (exfalso; first | exact Q1.out.1 (by assumption) | omega | (have q3 := Q3.out; omega))
        | skip
      all_goals (
        refine (Trim_any wd _ hws).mono ?_
        rintro e w1 ⟨rfl, hB⟩
        have HB := Aside0.mk (((Mod.refl (fun _ => False) W).alloc _).below.trans (hB.mono (by simp)))
        clear hB
        cases ht : Lib.trimS wd.data.toList [48, 49, 50, 51, 52, 53, 54, 55, 56, 57] with
        | nil =>
          obtain ⟨n, hn⟩ := HT.out.1 ht
          have HN2 := Aside0.mk hn
          clear ht
          go_wp2_with fail
          all_goals first
            | (exfalso; first | (simp_all; done) | (simp_all; omega))
            | skip
          refine (Atoi_long wd n _ (by omega) HN2.out (HEV.out.below HB.out)).mono ?_
          rintro e w2 ⟨⟨m, v2, rfl, hmn⟩, hB⟩
          have HMN := Aside0.mk hmn
          clear hmn
          have HB2 := Aside0.mk (HB.out.trans (hB.mono HB.out.size))
          clear hB hn
          go_wp2_with fail
          go_returns
          exact ⟨NumPost.some (HX.out.trans (HN.out.trans HN2.out)) P2.out _ HMN.out, HB2.out⟩
        | cons b r =>
          have HN2 : Aside0 (Lib.decNat wd.data.toList = none) := ⟨by
            cases hq : Lib.decNat wd.data.toList with
            | none => rfl
            | some n => have := HT.out.2 ⟨n, hq⟩; rw [ht] at this; cases this⟩
          clear ht
          go_wp2_with fail
          go_returns
          exact ⟨NumPost.none (HX.out.trans (HN.out.trans HN2.out)) _, HB.out⟩)
    · have HN : Aside0 (numO most wd.data.toList = none) := ⟨by
        unfold numO
        by_cases h1 : wd.data.toList = []
        · rw [h1]; rfl
        · rw [if_neg (fun q => hp ⟨h1, q.1, q.2⟩)]⟩
      have HP := Aside0.mk hp
      clear hp
      go_enter Tryz.func65, Tryz.ntmps65
      go_wp2_with fail
      all_goals first
        | (go_returns
           exact ⟨NumPost.none (HX.out.trans HN.out) _, ((Mod.refl (fun _ => False) W).alloc _).below⟩)
        | (exfalso
           apply HP.out
           simp only [ByteArray.toList_eq] at *
           refine ⟨by assumption, by omega, fun q => ?_⟩
           have hg : wd.data.toList[0]? = some wd[0] := List.getElem?_eq_some_iff.2 ⟨by omega, rfl⟩
           obtain ⟨q1, q2⟩ := q
           rw [hg] at q2
           have := congrArg UInt8.toNat (Option.some.inj q2)
           simp at this
           omega)
end Go.Proofs.YthhnhbpmpdminaaGreatDoor
