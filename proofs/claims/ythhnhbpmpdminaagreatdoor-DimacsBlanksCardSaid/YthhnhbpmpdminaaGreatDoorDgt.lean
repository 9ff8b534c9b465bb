/-
dimacs.digits: a number of at most so many digits. Conditions: the bound is an int.
-/
import Derived.Test.YthhnhbpmpdminaaGreatDoorProg
import Derived.Test.YthhnhbpmpdminaaGreatDoorMem
import Derived.Test.YthhnhbpmpdminaaGreatDoorPlan
import Derived.WalkKit
import Derived.Lib.Atoi
import Derived.Lib.OthersKept
import Derived.Laws.RangeAny
import Derived.Deep.LoopGhost
import Derived.LoopTactic
import Derived.Handy
import Derived.Lib.Strings
import Derived.Lib.UnsafeStr
namespace Go.Proofs.YthhnhbpmpdminaaGreatDoor
set_option maxRecDepth 4096
open Go.RowKit Go.Proofs.YthhnhbpmpdminaaGreatDoorW.PrintWords

/-- A number of at most nine digits, the first one not 0 (but 0). -/
def numD (l : List UInt8) : Option Nat := if l.length ≤ 9 ∧ ¬ (1 < l.length ∧ l[0]? = some 48) then Lib.decNat l else none
def numW (o : Option Nat) : Value := match o with
  | some n => .tuple #[.int .i64 (n : Int), .bool true]
  | none => .tuple #[.int .i64 0, .bool false]
theorem decFrom_snoc (l : List UInt8) (b : UInt8) : ∀ acc, Lib.decFrom acc (l ++ [b]) = (Lib.decFrom acc l).bind fun n => (Lib.digitVal b).map fun d => n * 10 + d := by
  induction l with
  | nil =>
    intro acc
    show (match Lib.digitVal b with | some d => Lib.decFrom (acc * 10 + d) [] | none => none) = _
    cases Lib.digitVal b <;> rfl
  | cons a l ih =>
    intro acc
    show (match Lib.digitVal a with | some d => Lib.decFrom (acc * 10 + d) (l ++ [b]) | none => none) = (match Lib.digitVal a with | some d => Lib.decFrom (acc * 10 + d) l | none => none).bind _
    cases Lib.digitVal a with
    | none => rfl
    | some d => exact ih _
theorem decFrom_none (l r : List UInt8) : ∀ acc, Lib.decFrom acc l = none → Lib.decFrom acc (l ++ r) = none := by
  induction l with
  | nil => intro acc h; cases h
  | cons a l ih =>
    intro acc h
    have h : (match Lib.digitVal a with | some d => Lib.decFrom (acc * 10 + d) l | none => none) = none := h
    show (match Lib.digitVal a with | some d => Lib.decFrom (acc * 10 + d) (l ++ r) | none => none) = none
    cases hd : Lib.digitVal a with
    | none => rfl
    | some d => rw [hd] at h; exact ih _ h
theorem decFrom_lt (l : List UInt8) : ∀ acc n, Lib.decFrom acc l = some n → n < (acc + 1) * 10 ^ l.length := by
  induction l with
  | nil => intro acc n h; cases h; simp
  | cons a l ih =>
    intro acc n h
    have h : (match Lib.digitVal a with | some d => Lib.decFrom (acc * 10 + d) l | none => none) = some n := h
    cases hd : Lib.digitVal a with
    | none => rw [hd] at h; cases h
    | some d =>
      rw [hd] at h
      have h1 := ih _ _ h
      have hd9 : d ≤ 9 := by unfold Lib.digitVal at hd; split at hd <;> cases hd; omega
      have : (acc * 10 + d + 1) * 10 ^ l.length ≤ ((acc + 1) * 10) * 10 ^ l.length := Nat.mul_le_mul_right _ (by omega)
      rw [List.length_cons, Nat.pow_succ, Nat.mul_comm (10 ^ l.length) 10, ← Nat.mul_assoc]
      omega
/-- A byte at which it stops: none. -/
theorem numD_stop {l : List UInt8} {p : Nat} {b : UInt8} (hb : l[p]? = some b) (h : Lib.digitVal b = none ∨ 9 ≤ p ∨ (0 < p ∧ l[0]? = some 48)) : numD l = none := by
  unfold numD
  have hl := (List.getElem?_eq_some_iff.1 hb).1
  split
  · rename_i hc
    obtain ⟨h1, h2⟩ := hc
    rcases h with h | h | ⟨h, h0⟩
    · have hne : l.isEmpty = false := by cases l with | nil => simp at hl | cons => rfl
      unfold Lib.decNat
      rw [hne]
      have e : l = l.take p ++ [b] ++ l.drop (p + 1) := by
        have h1 := List.take_append_drop p l
        rw [List.drop_eq_getElem_cons hl, (List.getElem?_eq_some_iff.1 hb).2] at h1
        rw [List.append_assoc]
        exact h1.symm
      rw [e]
      refine decFrom_none _ _ _ ?_
      rw [decFrom_snoc, h]
      cases Lib.decFrom 0 (l.take p) <;> rfl
    · omega
    · exact absurd ⟨by omega, h0⟩ h2
  · rfl
theorem iterPos_at {w : World} {k : Nat} {s : ByteArray} {p : Nat} (h : w.heap[k]? = some (.stringIter s p)) : w.iterPos k = p := by simp [World.iterPos, h]
set_option maxHeartbeats 2000000 in
theorem digits_any (s : ByteArray) (w : World) (hs : s.size ≤ 9223372036854775807) :
    Calls Tryz.prog 159 #[.string s, .int .i64 9] w fun e w' => e = .returned (numW (numD s.data.toList)) ∧ Below w.heap.size w w' := by
  have hl : s.data.toList.length = s.size := by rw [Array.length_toList]; rfl
  obtain ⟨R, hR⟩ : ∃ R, numD s.data.toList = R := ⟨_, rfl⟩
  rw [hR]
  have HR := Aside0.mk hR
  clear hR
  go_enter Tryz.func159, Tryz.ntmps159
  go_wp2_with fail
  go_loopw [6] (fun v wr => ∃ (pos n : Nat), v = .int .i64 (n : Int) ∧ wr.heap[w.heap.size]? = some (.stringIter s pos) ∧ Below w.heap.size w wr ∧ Lib.decFrom 0 (s.data.toList.take pos) = some n ∧ pos ≤ s.size ∧ pos ≤ 9 ∧ (1 < pos → ¬ s.data.toList[0]? = some 48)) (fun _ wr => s.size - wr.iterPos w.heap.size)
  case atStart => exact ⟨0, 0, rfl, World.iter_heap w s 0, (Below.refl _ _).alloc (Nat.le_refl _) _, rfl, by omega, by omega, fun h => by omega⟩
  case round =>
    obtain ⟨pos, n, rfl, hit, hbw, hdf, hp1, hp2, hp3⟩ := hrel
    have hpos0 := iterPos_at hit
    by_cases hp : pos < s.size
    · have hnx : ∀ ty, (Instr.next (.pointer (some ⟨w.heap.size, 0, none⟩)) true ty).run Tryz.prog wr = _ := fun ty => Lib.run_next_any_at wr w.heap.size s pos ty hit hp
      have hit2 := Lib.iterAt_heap wr w.heap.size s pos (pos + (Utf8.decode s pos).2) hit
      have hbw2 := Lib.below_iterAt hbw (k := w.heap.size) (Nat.le_refl _) s (pos + (Utf8.decode s pos).2)
      obtain ⟨W1, hW1⟩ : ∃ W1, W1 = wr.iterAt w.heap.size s (pos + (Utf8.decode s pos).2) := ⟨_, rfl⟩
      rw [← hW1] at hnx hit2 hbw2
      clear hW1 hit hbw
      obtain ⟨c, wd, hcw⟩ : ∃ c wd, Utf8.decode s pos = (c, wd) := ⟨_, _, rfl⟩
      rw [hcw] at hnx hit2
      simp only at hnx hit2
      have h0s : 0 < s.size := by omega
      have hb : s.data.toList[pos]? = some (s[pos]'hp) := by
        have : s.data[pos]? = some (s[pos]'hp) := by
          rw [Array.getElem?_eq_getElem (show pos < s.data.size from hp)]; rfl
        simpa using this
      have hb0 : s.data.toList[0]? = some (s[0]'h0s) := by
        have : s.data[0]? = some (s[0]'h0s) := by
          rw [Array.getElem?_eq_getElem (show 0 < s.data.size from h0s)]; rfl
        simpa using this
      have hdig : 48 ≤ (c : Int) → (c : Int) ≤ 57 → wd = 1 ∧ Lib.digitVal (s[pos]'hp) = some (c - 48) := by
        intro q1 q2
        by_cases ha : (s[pos]'hp).toNat < 128
        · rw [decode_ascii s pos hp ha] at hcw
          cases hcw
          exact ⟨rfl, by unfold Lib.digitVal; rw [if_pos (by omega)]⟩
        · have := (decode_high s pos hp (by omega)).1
          rw [hcw] at this
          simp only at this
          omega
      have hnod : ((c : Int) < 48 ∨ 57 < (c : Int)) → Lib.digitVal (s[pos]'hp) = none := by
        intro q
        unfold Lib.digitVal
        refine if_neg fun hq => ?_
        rw [decode_ascii s pos hp (by omega)] at hcw
        cases hcw
        omega
      have hstop : (((c : Int) < 48 ∨ 57 < (c : Int)) ∨ (9 : Int) ≤ (pos : Int)) ∨ (0 < pos ∧ (((s[0]'h0s).toNat : Int) == 48) = true) → R = none := by
        intro q
        rw [← HR.out]
        refine numD_stop hb ?_
        rcases q with (q | q) | ⟨q1, q2⟩
        · exact .inl (hnod q)
        · exact .inr (.inl (by omega))
        · refine .inr (.inr ⟨q1, ?_⟩)
          rw [hb0]
          have q2 : ((s[0]'h0s).toNat : Int) = 48 := by simpa using q2
          have : (s[0]'h0s) = 48 := UInt8.toNat_inj.1 (by show (s[0]'h0s).toNat = 48; omega)
          rw [this]
      have hgo : 48 ≤ (c : Int) → (c : Int) ≤ 57 → (pos : Int) < 9 → (0 < pos → (((s[0]'h0s).toNat : Int) == 48) = false) →
          (∃ pos n_1 : Nat, Value.int .i64 (wrap64 (wrap64 (10 * (n : Int)) + ((c : Int) - 48))) = .int .i64 (n_1 : Int) ∧ W1.heap[w.heap.size]? = some (Obj.stringIter s pos) ∧ Below w.heap.size w W1 ∧
            Lib.decFrom 0 (List.take pos s.data.toList) = some n_1 ∧ pos ≤ s.size ∧ pos ≤ 9 ∧ (1 < pos → ¬s.data.toList[0]? = some 48)) ∧ s.size - W1.iterPos w.heap.size < s.size - wr.iterPos w.heap.size := by
        intro q1 q2 q3 q4
        obtain ⟨rfl, hd⟩ := hdig q1 q2
        have hlt := decFrom_lt _ _ _ hdf
        have hpw : 10 ^ (List.take pos s.data.toList).length ≤ 10 ^ 9 := Nat.pow_le_pow_right (by omega) (by simp; omega)
        have hn : n < 1000000000 := by
          have : (0 + 1) * 10 ^ (List.take pos s.data.toList).length ≤ 1000000000 := by rw [Nat.one_mul]; exact hpw
          omega
        refine ⟨⟨pos + 1, n * 10 + (c - 48), ?_, hit2, hbw2, ?_, by omega, by omega, fun _ => ?_⟩, ?_⟩
        · congr 1
          unfold wrap64; omega
        · rw [List.take_succ_eq_append_getElem (by omega), decFrom_snoc, hdf]
          have : s.data.toList[pos]'(by omega) = s[pos]'hp := (List.getElem?_eq_some_iff.1 hb).2
          rw [this, hd]; rfl
        · rw [hb0]
          intro hq
          by_cases h0 : 0 < pos
          · have := q4 h0
            have hq : s[0]'h0s = 48 := Option.some.inj hq
            rw [hq] at this
            exact absurd this (by decide)
          · have : pos = 0 := by omega
            omega
        · rw [hpos0, iterPos_at hit2]; omega
      clear hdig hnod
      have HS := Aside0.mk hstop
      have HG := Aside0.mk hgo
      clear hstop hgo hb hb0 hcw hdf
      go_wp2_with fail
      all_goals try exact HG.out (by omega) (by omega) (by omega) (by first | (rename_i hx; intro _; exact hx.2) | (intro q; omega))
      all_goals go_returns
      all_goals refine ⟨congrArg (fun r => Ending.returned (numW r)) (HS.out ?_).symm, hbw2⟩
      all_goals first | (left; left; omega) | (left; right; omega) | (rename_i hx; rcases hx with (hx | hx) | hx <;> first | exact .inl (.inl hx) | exact .inl (.inr hx) | exact .inr ⟨by assumption, hx⟩)
    · have hnx : ∀ ty, (Instr.next (.pointer (some ⟨w.heap.size, 0, none⟩)) true ty).run Tryz.prog wr = _ := fun ty => Lib.run_next_end_at wr w.heap.size s pos ty hit hp
      have hpe : pos = s.size := by omega
      subst hpe
      rw [List.take_of_length_le (by omega)] at hdf
      have hk : ¬ (1 < s.data.toList.length ∧ s.data.toList[0]? = some 48) := fun q => hp3 (by omega) q.2
      have hRe := HR.out
      unfold numD at hRe
      rw [if_pos ⟨by omega, hk⟩, Lib.decNat, hdf] at hRe
      by_cases h0 : s.size = 0
      · have hnil : s.data.toList = [] := List.length_eq_zero_iff.1 (by omega)
        have hne : s.toList = [] := by rw [Lib.toList_data]; exact hnil
        rw [hnil] at hRe hdf
        have hn0 : n = 0 := by cases hdf; rfl
        have hRn : R = none := hRe.symm
        subst hn0; subst hRn
        have HB := Aside0.mk hbw
        clear hdf hRe hk hp3 hbw hnil
        go_wp2_with fail
        go_returns
        exact ⟨rfl, HB.out⟩
      · have hne : ¬ s.toList = [] := by
          rw [Lib.toList_data]; intro q; rw [q] at hl; simp at hl; omega
        have hRn : R = some n := by
          have : s.data.toList.isEmpty = false := by
            cases hq : s.data.toList with
            | nil => rw [hq] at hl; simp at hl; omega
            | cons => rfl
          rw [this] at hRe; exact hRe.symm
        subst hRn
        have HB := Aside0.mk hbw
        clear hdf hRe hk hp3 hbw
        go_wp2_with fail
        go_returns
        exact ⟨by simp [hne, numW], HB.out⟩
end Go.Proofs.YthhnhbpmpdminaaGreatDoor
