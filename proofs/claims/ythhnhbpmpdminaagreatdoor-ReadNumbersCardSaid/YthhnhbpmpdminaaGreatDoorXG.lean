/-
Several texts as one: Nopy Nme Nmr Nnu Nnr Lay0 Samy.
-/
import Derived.Test.YthhnhbpmpdminaaGreatDoorXF
import Derived.Maps.Own
import Derived.Maps.OwnOps
import Derived.Maps.OwnSet
import Derived.Maps.Views
import Derived.Test.YthhnhbpmpdminaaGreatDoorXC
import Derived.IntWalk
import Derived.Lib.AtoiTie
import Derived.BigRegion
import Derived.Deep.RegionHeld3
import Derived.Deep.Slices
/-
words.Op: the number of an operator's word, walked by hand. Conditions: the word's length can be counted.
-/
namespace Go.Proofs.YthhnhbpmpdminaaGreatDoor
open Go.RowKit Go.Proofs.YthhnhbpmpdminaaGreatDoorW.PrintWords Go.Maps
set_option maxRecDepth 4096
/-- The operators' words. -/
def opTab : List (List UInt8 × Int) := [
  ([110, 111, 116], 3),
  ([97, 110, 100], 4),
  ([111, 114], 5),
  ([120, 111, 114], 6),
  ([61, 62], 7),
  ([61], 8),
  ([105, 116, 101], 9),
  ([100, 105, 115, 116, 105, 110, 99, 116], -1),
  ([98, 118, 110, 111, 116], 10),
  ([98, 118, 110, 101, 103], 11),
  ([98, 118, 97, 110, 100], 12),
  ([98, 118, 111, 114], 13),
  ([98, 118, 120, 111, 114], 14),
  ([98, 118, 110, 97, 110, 100], 15),
  ([98, 118, 110, 111, 114], 16),
  ([98, 118, 120, 110, 111, 114], 17),
  ([98, 118, 97, 100, 100], 18),
  ([98, 118, 115, 117, 98], 19),
  ([98, 118, 109, 117, 108], 20),
  ([98, 118, 117, 100, 105, 118], 21),
  ([98, 118, 117, 114, 101, 109], 22),
  ([98, 118, 115, 100, 105, 118], 23),
  ([98, 118, 115, 114, 101, 109], 24),
  ([98, 118, 115, 109, 111, 100], 25),
  ([98, 118, 115, 104, 108], 26),
  ([98, 118, 108, 115, 104, 114], 27),
  ([98, 118, 97, 115, 104, 114], 28),
  ([98, 118, 117, 108, 116], 29),
  ([98, 118, 117, 108, 101], 30),
  ([98, 118, 117, 103, 116], 31),
  ([98, 118, 117, 103, 101], 32),
  ([98, 118, 115, 108, 116], 33),
  ([98, 118, 115, 108, 101], 34),
  ([98, 118, 115, 103, 116], 35),
  ([98, 118, 115, 103, 101], 36),
  ([98, 118, 99, 111, 109, 112], 37),
  ([99, 111, 110, 99, 97, 116], 38),
  ([101, 120, 116, 114, 97, 99, 116], 39),
  ([122, 101, 114, 111, 95, 101, 120, 116, 101, 110, 100], 40),
  ([115, 105, 103, 110, 95, 101, 120, 116, 101, 110, 100], 41),
  ([114, 111, 116, 97, 116, 101, 95, 108, 101, 102, 116], 42),
  ([114, 111, 116, 97, 116, 101, 95, 114, 105, 103, 104, 116], 43),
  ([114, 101, 112, 101, 97, 116], 44)]
def opV (l : List UInt8) : Int := match opTab.find? (fun p => l == p.1) with
  | some p => p.2
  | none => 0
def opL (tab : List (List UInt8 × Int)) (l : List UInt8) : Int := match tab.find? (fun p => l == p.1) with
  | some p => p.2
  | none => 0
def TabOk (D : DataW Unit) (tab : List (List UInt8 × Int)) : Prop := ∀ l : List UInt8, D.atKey (.string l) (.lit (.int .i64 0)) = .lit (.int .i64 (opL tab l))
theorem TabOk.put {D : DataW Unit} {tab : List (List UInt8 × Int)} (h : TabOk D tab) (hm : Maps.IsMap D) (p : List UInt8 × Int) (hp : (tab.find? fun q => p.1 == q.1) = none) : TabOk (D.put (.string p.1) (.lit (.int .i64 p.2))) (tab ++ [p]) := by
  intro l
  by_cases q : l = p.1
  · subst q
    rw [Maps.atKey_put_same hm (show WideAt.IsKeyLit (Lit.string p.1) from trivial)]
    unfold opL
    rw [List.find?_append, hp]
    simp
  · have hne : Lit.string l ≠ Lit.string p.1 := fun q2 => q (by simpa using q2)
    rw [Maps.atKey_put_other hne, h l]
    unfold opL
    rw [List.find?_append]
    cases tab.find? (fun p => l == p.1) with
    | some r => rfl
    | none =>
      have : (l == p.1) = false := by simpa using q
      simp [this]
def insOne (o : Oper) (p : List UInt8 × Int) : Bool := match o.op with
  | .insert t (.tmp 1) (.const (.string k)) (.const (.int .i64 v)) => t == 121 && (k.data.toList == p.1 && (decide (k.size ≤ maxLen) && (decide (v = p.2) && (decide ((Lit.int .i64 v).wf = true) && (o.guard.isNone && o.dst.isNone)))))
  | _ => false
def insOk : List (List UInt8 × Int) → List Oper → List (List UInt8 × Int) → Bool
  | _, [], [] => true
  | acc, o :: os, p :: t => insOne o p && ((acc.find? fun q => p.1 == q.1).isNone && insOk (acc ++ [p]) os t)
  | _, _, _ => false
theorem insOne_ok {o : Oper} {p : List UInt8 × Int} (h : insOne o p = true) : ∃ k : ByteArray, o.op = .insert 121 (.tmp 1) (.const (.string k)) (.const (.int .i64 p.2)) ∧ k.data.toList = p.1 ∧ k.size ≤ maxLen ∧ (Lit.int .i64 p.2).wf = true ∧ o.guard = none ∧ o.dst = none := by
  unfold insOne at h
  split at h
  · rename_i t k v hop
    simp only [Bool.and_eq_true, beq_iff_eq, decide_eq_true_eq, Option.isNone_iff_eq_none] at h
    obtain ⟨rfl, h2, h3, rfl, h5, h6, h7⟩ := h
    exact ⟨k, hop, h2, h3, h5, h6, h7⟩
  · cases h
theorem wpList_ins {ops : Array Oper} {rest : List Oper} {a : Act} {Q : Exit → Act → World → Prop} {mb : Nat} (hm : a.eval (.tmp 1) = .map (some mb)) : ∀ (os : List Oper) (acc tab : List (List UInt8 × Int)) (n : Nat) (D : DataW Unit) (W W0 : World),
    insOk acc os tab = true → TabOk D acc → W.ownsMap Tryz.prog 9 (plainElem Tryz.prog 3) mb n D → n + tab.length ≤ 1000 → Below W0.heap.size W0 W → W0.heap.size ≤ mb →
    (∀ (W' : World) (D' : DataW Unit) (n' : Nat), TabOk D' (acc ++ tab) → W'.ownsMap Tryz.prog 9 (plainElem Tryz.prog 3) mb n' D' → Below W0.heap.size W0 W' → wpList Tryz.prog ops Q rest a W') → wpList Tryz.prog ops Q (os ++ rest) a W
  | [], acc, [], n, D, W, W0, _, hT, ho, _, hB, _, hK => by
    rw [List.append_nil] at hK
    exact hK W D n hT ho hB
  | [], _, _ :: _, _, _, _, _, h, _, _, _, _, _, _ => by cases h
  | _ :: _, _, [], _, _, _, _, h, _, _, _, _, _, _ => by cases h
  | o :: os, acc, p :: t, n, D, W, W0, h, hT, ho, hn, hB, hmb, hK => by
    unfold insOk at h
    simp only [Bool.and_eq_true, Option.isNone_iff_eq_none] at h
    obtain ⟨h1, h2, h3⟩ := h
    obtain ⟨k, e1, e2, e3, e4, e5, e6⟩ := insOne_ok h1
    rw [List.length_cons] at hn
    have hkey := WideMaps.keyOf_string_mk (P := Tryz.prog) Tryz.underlying9 e3
    obtain ⟨W1, hrun, r1, r2⟩ := ho.update (string_keyed Tryz.underlying9) Tryz.underlying121 (by unfold maxLen; omega) hkey (plainElem_int (H := Unit) Tryz.underlying3 e4)
    rw [List.cons_append]
    refine wpList_plain e5 fun K' hK' => ?_
    unfold Oper.wp
    have hx : a.eval (.const (.string k)) = .string k := rfl
    have hv : a.eval (.const (.int .i64 p.2)) = .int .i64 p.2 := rfl
    simp [execOp, e1, hm, hx, hv, hrun, Result.andThen]
    refine hK' _ _ ?_
    rw [e6, show a.put none undef = a from rfl]
    have hB1 : Below W0.heap.size W0 W1 := by
      refine ⟨r2.os.trans hB.os, r2.tape.trans hB.tape, r2.output.trans hB.output, Nat.le_trans hB.size r2.size, fun i hi => ?_⟩
      have hne : some i ≠ some mb := fun q => by
        have e : i = mb := by simpa using q
        omega
      exact (r2.block i (Nat.lt_of_lt_of_le hi hB.size) hne).trans (hB.block i hi)
    rw [e2] at r1
    exact wpList_ins hm os (acc ++ [p]) t (n + 1) _ W1 W0 h3 (hT.put ho.isMap p h2) r1 (by omega) hB1 hmb (fun W' D' n' q1 q2 q3 => hK W' D' n' (by rw [List.append_assoc] at q1; exact q1) q2 q3)
theorem wpList_insN {ops : Array Oper} {L : List Oper} {a : Act} {Q : Exit → Act → World → Prop} {mb : Nat} (k : Nat) (hm : a.eval (.tmp 1) = .map (some mb)) (tab : List (List UInt8 × Int)) (W W0 : World) (hok : insOk [] (L.take k) tab = true) (ho : W.ownsMap Tryz.prog 9 (plainElem (H := Unit) Tryz.prog 3) mb 0 (.map [])) (hn : tab.length ≤ 1000) (hB : Below W0.heap.size W0 W) (hmb : W0.heap.size ≤ mb)
    (hK : ∀ (W' : World) (D' : DataW Unit) (n' : Nat), TabOk D' tab → W'.ownsMap Tryz.prog 9 (plainElem Tryz.prog 3) mb n' D' → Below W0.heap.size W0 W' → wpList Tryz.prog ops Q (L.drop k) a W') : wpList Tryz.prog ops Q L a W := by
  rw [← List.take_append_drop k L]
  exact wpList_ins hm (L.take k) [] tab 0 _ W W0 hok (fun l => rfl) ho (by omega) hB hmb hK
theorem zeroI (w : World) : (zeroValue 3).run Tryz.prog w = .ok (.int .i64 0) w := by kernel_rfl
theorem table_any (W : World) : Calls Tryz.prog 139 #[] W fun e W1 => ∃ k n D, e = .returned (.map (some k)) ∧ Below W.heap.size W W1 ∧ W1.ownsMap Tryz.prog 9 (plainElem (H := Unit) Tryz.prog 3) k n D ∧ TabOk D opTab := by
  have hmm := @run_makeMap Tryz.prog
  go_enter Tryz.func139, Tryz.ntmps139
  go_wp2_with (refine wpList_insN 43 (by rfl) opTab _ W (by kernel_rfl) (World.ownsMap_made (H := Unit) W Tryz.prog 9 (plainElem Tryz.prog 3)) (by decide) ((Below.refl _ W).alloc (Nat.le_refl _) _) (Nat.le_refl _) ?_; intro W' D' n' hT ho hB; simp only [List.drop_succ_cons, List.drop_zero])
  go_returns
  exact ⟨_, _, _, rfl, hB, ho, hT⟩
theorem Op_any (s : ByteArray) (hs : s.size ≤ 9223372036854775807) (W : World) : Calls Tryz.prog 96 #[.string s] W fun e W' => e = .returned (.int .i64 (opV s.data.toList)) ∧ Below W.heap.size W W' := by
  have hkey := WideMaps.keyOf_string_mk (P := Tryz.prog) (s := s) Tryz.underlying9 (by unfold maxLen; omega)
  go_enter Tryz.func96, Tryz.ntmps96
  go_wp2_with fail
  refine (table_any W).mono ?_
  rintro e w1 ⟨k, n, D, rfl, hB, ho, hT⟩
  have HB := Aside0.mk hB
  obtain ⟨c, hrun, hat, _⟩ := ho.lookup_int (string_keyed Tryz.underlying9) Tryz.underlying121 Tryz.underlying3 (zeroI _) hkey
  have hc : c = opV s.data.toList := by
    have := hat.symm.trans (hT s.data.toList)
    have e2 : opL opTab s.data.toList = opV s.data.toList := rfl
    rw [e2] at this
    simpa using this
  subst hc
  clear hB ho hT hat
  go_wp2_with fail
  go_returns
  exact ⟨rfl, HB.out⟩
end Go.Proofs.YthhnhbpmpdminaaGreatDoor
/-
Which words are names: the program's and the reference's. Conditions: none.
-/
namespace Go.Proofs.YthhnhbpmpdminaaGreatDoor
open Go.RowKit Go.Proofs.YthhnhbpmpdminaaGreatDoorW.PrintWords
set_option maxRecDepth 4096
def nameB (l : List UInt8) : Bool := wordB l && match l with
  | [] => false
  | b :: _ => ((b.toNat : Int) == 124) || !(decide (48 ≤ (b.toNat : Int)) && decide ((b.toNat : Int) ≤ 57) || ((b.toNat : Int) == 35) || ((b.toNat : Int) == 58) || l == [116, 114, 117, 101] || l == [102, 97, 108, 115, 101] || l == [108, 101, 116] || l == [95] || !(opV l == 0))
theorem nameB_eq {s : ByteArray} (h : 0 < s.size) (hw : wordB s.data.toList = true) : nameB s.data.toList = (((s[0].toNat : Int) == 124) || !(decide (48 ≤ (s[0].toNat : Int)) && decide ((s[0].toNat : Int) ≤ 57) || ((s[0].toNat : Int) == 35) || ((s[0].toNat : Int) == 58) ||
    s.data.toList == [116, 114, 117, 101] || s.data.toList == [102, 97, 108, 115, 101] || s.data.toList == [108, 101, 116] || s.data.toList == [95] || !(opV s.data.toList == 0))) := by
  have hl : s.data.toList.length = s.size := by rw [Array.length_toList]; rfl
  obtain ⟨b, r, hq⟩ : ∃ b r, s.data.toList = b :: r := by
    cases hq : s.data.toList with
    | nil => rw [hq] at hl; simp at hl; omega
    | cons b r => exact ⟨b, r, rfl⟩
  have hb : s[0] = b := by
    have : s.data.toList[0]? = some s[0] := List.getElem?_eq_some_iff.2 ⟨by omega, rfl⟩
    rw [hq] at this
    simpa using this.symm
  unfold nameB
  rw [hw, hq, hb]
  rfl
set_option maxHeartbeats 2000000 in
theorem Name_any (s : ByteArray) (W : World) (hs : s.size ≤ 9223372036854775807) : Calls Tryz.prog 68 #[.string s] W fun e W' => e = .returned (.bool (nameB s.data.toList)) ∧ Below W.heap.size W W' := by
  have hl : s.data.toList.length = s.size := by rw [Array.length_toList]; rfl
  by_cases hw : wordB s.data.toList = true
  · have h0 : 0 < s.size := by
      rcases Nat.eq_zero_or_pos s.size with e | e
      · have : s.data.toList = [] := List.length_eq_zero_iff.1 (by omega)
        rw [this] at hw; exact absurd hw (by decide)
      · exact e
    have h1 : (0 : Int) < (s.size : Int) := by omega
    have HN := Aside0.mk (nameB_eq h0 hw)
    have HW := Aside0.mk hw
    clear hw
    go_enter Tryz.func68, Tryz.ntmps68
    go_wp2_with fail
    refine (sword_any s W hs).mono ?_
    rintro e w1 ⟨rfl, hB⟩
    rw [HW.out]
    have HB := Aside0.mk hB
    clear hB
    go_wp2_with fail
    all_goals first
      | (go_returns
         refine ⟨?_, HB.out⟩
         rw [HN.out]
         simp only [ByteArray.toList_eq] at *
         first | (simp [*]; done) | (exfalso; simp_all; done) | (simp_all; done) | (simp_all; omega))
      | skip
    all_goals (
      refine (Op_any s (by omega) _).mono ?_
      rintro e w2 ⟨rfl, hB2⟩
      have HB2 := Aside0.mk hB2
      clear hB2
      go_wp2_with fail
      go_returns
      refine ⟨?_, HB.out.trans (HB2.out.mono HB.out.size)⟩
      rw [HN.out]
      simp only [ByteArray.toList_eq] at *
      first | (simp [*]; done) | (exfalso; simp_all; done) | (simp_all; done) | (simp_all; omega))
  · have hf : wordB s.data.toList = false := by simpa using hw
    have HN : Aside0 (nameB s.data.toList = false) := ⟨by unfold nameB; rw [hf]; rfl⟩
    have HW := Aside0.mk hf
    clear hf hw
    go_enter Tryz.func68, Tryz.ntmps68
    go_wp2_with fail
    refine (sword_any s W hs).mono ?_
    rintro e w1 ⟨rfl, hB⟩
    rw [HW.out]
    have HB := Aside0.mk hB
    clear hB
    go_wp2_with fail
    go_returns
    exact ⟨by rw [HN.out]; rfl, HB.out⟩
end Go.Proofs.YthhnhbpmpdminaaGreatDoor
/-
Which words are names for the reference. Conditions: none.
-/
namespace Go.Proofs.YthhnhbpmpdminaaGreatDoor
open Go.RowKit Go.Proofs.YthhnhbpmpdminaaGreatDoorW.PrintWords
set_option maxRecDepth 4096
end Go.Proofs.YthhnhbpmpdminaaGreatDoor
/-
Numerals: the program's. Conditions: none.
-/
namespace Go.Proofs.YthhnhbpmpdminaaGreatDoor
open Go.RowKit Go.Proofs.YthhnhbpmpdminaaGreatDoorW.PrintWords
set_option maxRecDepth 4096
/-- A numeral of at most so many digits, the first one not 0. -/
def numO (most : Nat) (l : List UInt8) : Option Nat := if l.length ≤ most ∧ ¬ (1 < l.length ∧ l[0]? = some 48) then Lib.decNat l else none
def numV (o : Option Nat) : Value := match o with
  | some n => .tuple #[.int .i64 (n : Int), .bool true]
  | none => .tuple #[.int .i64 0, .bool false]
theorem dropWhile_nil_iff (p : UInt8 → Bool) : ∀ l : List UInt8, l.dropWhile p = [] ↔ ∀ b ∈ l, p b = true
  | [] => by simp
  | a :: l => by
    rw [List.dropWhile_cons]
    cases h : p a with
    | true => simp [h, dropWhile_nil_iff p l]
    | false => simp [h]
theorem dropWhile_head (p : UInt8 → Bool) : ∀ (l : List UInt8) (a : UInt8) (r : List UInt8), l.dropWhile p = a :: r → p a = false
  | [], _, _, h => by simp at h
  | b :: l, a, r, h => by
    rw [List.dropWhile_cons] at h
    cases hb : p b with
    | true => rw [hb] at h; exact dropWhile_head p l a r h
    | false => rw [hb] at h; simp at h; rw [← h.1]; exact hb
theorem trimS_nil_iff (l cs : List UInt8) : Lib.trimS l cs = [] ↔ ∀ b ∈ l, cs.contains b = true := by
  unfold Lib.trimS Lib.trimLeftS Lib.trimRightS
  rw [dropWhile_nil_iff]
  constructor
  · intro h
    cases hr : l.reverse.dropWhile (cs.contains ·) with
    | nil =>
      rw [dropWhile_nil_iff] at hr
      intro b hb
      exact hr b (by simpa using hb)
    | cons a r =>
      have := dropWhile_head _ _ _ _ hr
      rw [hr] at h
      have := h a (by simp)
      simp_all
  · intro h b hb
    have : b ∈ l.reverse.dropWhile (cs.contains ·) := by simpa using hb
    exact h b (by have := (List.dropWhile_sublist (cs.contains ·)).subset this; simpa using this)
theorem digits_contains (b : UInt8) : ([48, 49, 50, 51, 52, 53, 54, 55, 56, 57] : List UInt8).contains b = (Lib.digitVal b).isSome := by
  have key : ∀ k : UInt8, (b == k) = decide (b.toNat = k.toNat) := fun k => by
    by_cases e : b = k
    · subst e; simp
    · have : b.toNat ≠ k.toNat := fun q => e (UInt8.toNat_inj.1 q)
      simp [e, this]
  unfold Lib.digitVal
  simp only [List.contains, List.elem, key]
  have c : ∀ n : Nat, n < 256 → (UInt8.ofNat n).toNat = n := fun n h => by simp; omega
  by_cases h : 48 ≤ b.toNat ∧ b.toNat ≤ 57
  · rw [if_pos h]
    have : b.toNat = 48 ∨ b.toNat = 49 ∨ b.toNat = 50 ∨ b.toNat = 51 ∨ b.toNat = 52 ∨ b.toNat = 53 ∨ b.toNat = 54 ∨ b.toNat = 55 ∨ b.toNat = 56 ∨ b.toNat = 57 := by omega
    rcases this with h | h | h | h | h | h | h | h | h | h <;> rw [h] <;> rfl
  · rw [if_neg h]
    have h1 : b.toNat ≠ 48 ∧ b.toNat ≠ 49 ∧ b.toNat ≠ 50 ∧ b.toNat ≠ 51 ∧ b.toNat ≠ 52 ∧ b.toNat ≠ 53 ∧ b.toNat ≠ 54 ∧ b.toNat ≠ 55 ∧ b.toNat ≠ 56 ∧ b.toNat ≠ 57 := by omega
    obtain ⟨h1, h2, h3, h4, h5, h6, h7, h8, h9, h10⟩ := h1
    simp [h1, h2, h3, h4, h5, h6, h7, h8, h9, h10]
theorem decFrom_some (l : List UInt8) : ∀ acc, (∀ b ∈ l, (Lib.digitVal b).isSome = true) → ∃ n, Lib.decFrom acc l = some n := by
  induction l with
  | nil => intro acc _; exact ⟨acc, rfl⟩
  | cons a l ih =>
    intro acc h
    obtain ⟨d, hd⟩ := Option.isSome_iff_exists.1 (h a (by simp))
    obtain ⟨n, hn⟩ := ih (acc * 10 + d) fun b hb => h b (by simp [hb])
    exact ⟨n, by simp only [Lib.decFrom, hd]; exact hn⟩
theorem decFrom_all (l : List UInt8) : ∀ acc n, Lib.decFrom acc l = some n → ∀ b ∈ l, (Lib.digitVal b).isSome = true := by
  induction l with
  | nil => intro _ _ _ b hb; cases hb
  | cons a l ih =>
    intro acc n h b hb
    simp only [Lib.decFrom] at h
    split at h
    · rename_i d hd
      rcases List.mem_cons.1 hb with rfl | hb
      · rw [hd]; rfl
      · exact ih _ _ h b hb
    · cases h
theorem trim_digits {l : List UInt8} (h : l ≠ []) : Lib.trimS l [48, 49, 50, 51, 52, 53, 54, 55, 56, 57] = [] ↔ ∃ n, Lib.decNat l = some n := by
  rw [trimS_nil_iff]
  have e : Lib.decNat l = Lib.decFrom 0 l := by
    unfold Lib.decNat
    cases l with
    | nil => exact absurd rfl h
    | cons _ _ => rfl
  rw [e]
  constructor
  · intro q; exact decFrom_some l 0 fun b hb => by rw [← digits_contains]; exact q b hb
  · rintro ⟨n, hn⟩ b hb
    rw [digits_contains]; exact decFrom_all l 0 n hn b hb
theorem atoi_dec {l : List UInt8} {n : Nat} (h : Lib.decNat l = some n) : Lib.atoi l = some (n : Int) := by
  obtain ⟨h1, h2⟩ := Lib.decNat_some h
  cases l with
  | nil => exact absurd rfl h1
  | cons b r =>
    have hd := decFrom_all _ _ _ h2 b (by simp)
    obtain ⟨d, hd⟩ := Option.isSome_iff_exists.1 hd
    have hb := Lib.digitVal_eq hd
    have b1 : (b == 45) = false := by
      rw [beq_eq_false_iff_ne]; rintro rfl; exact absurd hb.1 (by decide)
    have b2 : (b == 43) = false := by
      rw [beq_eq_false_iff_ne]; rintro rfl; exact absurd hb.1 (by decide)
    simp only [Lib.atoi, b1, b2, h]
    rfl
theorem Trim_any (s : ByteArray) (w : World) (hs : s.size ≤ 9223372036854775807) : Calls Tryz.prog 93 #[.string s, .string ⟨#[48, 49, 50, 51, 52, 53, 54, 55, 56, 57]⟩] w fun e w' =>
    e = .returned (.string ⟨(Lib.trimS s.data.toList [48, 49, 50, 51, 52, 53, 54, 55, 56, 57]).toArray⟩) ∧ Below w.heap.size w w' :=
  Any.strings_Trim_laid Tryz.lays160 (by kernel_rfl) s ⟨#[48, 49, 50, 51, 52, 53, 54, 55, 56, 57]⟩ w hs (by decide) (ascii_of_all (by decide))
theorem Atoi_any (s : ByteArray) (n : Nat) (w : World) (hs : s.size ≤ 18) (h : Lib.decNat s.data.toList = some n) : Calls Tryz.prog 94 #[.string s] w fun e w' => e = .returned (.tuple #[.int .i64 (n : Int), .nilIface]) ∧ Below w.heap.size w w' := by
  have hl : s.data.toList.length = s.size := by rw [Array.length_toList]; rfl
  have ha : Lib.atoiAll s.data.toList = .ok (n : Int) := by rw [Lib.atoiAll_short _ (by omega), atoi_dec h]; rfl
  refine (show Calls Tryz.prog 94 #[.string s] w fun e w' => e = .returned (.tuple #[.int .i64 (n : Int), .nilIface]) ∧ (w' = w ∨ ∃ t, w' = Lib.bytesWorld w _ t) from Any.strconv_Atoi_ok Tryz.laysC172 s (by omega) (n : Int) ha w).mono ?_
  rintro e w' ⟨rfl, hw⟩
  refine ⟨rfl, ?_⟩
  rcases hw with rfl | ⟨t, rfl⟩
  · exact Below.refl _ _
  · exact bytes_below (Below.refl _ _) (Nat.le_refl _) _ t
set_option maxHeartbeats 2000000 in
theorem numeral_any (x : Sx) (c : List Value) (W : World) (hc : RT W (fun k => k < W.heap.size) x c) : Calls Tryz.prog 65 #[.agg c.toArray, .int .i64 3] W fun e W' =>
    e = .returned (numV (if x.list then none else numO 3 x.word.data.toList)) ∧ Below W.heap.size W W' := by
  obtain ⟨A, k, rfl, hk, hm, hws, hR⟩ := RT_cells hc
  clear hc hR
  have hl : x.word.data.toList.length = x.word.size := by rw [Array.length_toList]; rfl
  cases hx : x.list with
  | true =>
    go_enter Tryz.func65, Tryz.ntmps65
    go_wp2_with fail
    go_returns
    exact ⟨rfl, ((Mod.refl (fun _ => False) W).alloc _).below⟩
  | false =>
    simp only [Bool.false_eq_true, if_false]
    by_cases hp : x.word.data.toList ≠ [] ∧ x.word.data.toList.length ≤ 3 ∧ ¬ (1 < x.word.data.toList.length ∧ x.word.data.toList[0]? = some 48)
    · obtain ⟨p1, p2, p3⟩ := hp
      have HN : Aside0 (numO 3 x.word.data.toList = Lib.decNat x.word.data.toList) := ⟨by unfold numO; rw [if_pos ⟨p2, p3⟩]⟩
      have h0 : 0 < x.word.size := by
        rcases Nat.eq_zero_or_pos x.word.size with e | e
        · exact absurd (List.length_eq_zero_iff.1 (by omega)) p1
        · exact e
      have hg : x.word.data.toList[0]? = some x.word[0] := List.getElem?_eq_some_iff.2 ⟨by omega, rfl⟩
      have q1 : (x.word.toList = []) ↔ False := by rw [ByteArray.toList_eq]; simpa using p1
      have q2 : (x.word.size : Int) ≤ 3 := by omega
      have q3 : ¬ ((x.word[0].toNat : Int) = 48 ∧ 1 < (x.word.size : Int)) := fun ⟨a, b⟩ => p3 ⟨by omega, by rw [hg]; exact congrArg some (UInt8.toNat_inj.1 (show x.word[0].toNat = 48 by omega))⟩
      have HT := Aside0.mk (trim_digits p1)
      have P1 := Aside0.mk p1
      have Q3 := Aside0.mk q3
      have Q1 := Aside0.mk q1
      clear p1 p2 p3 hg q3 q1
      go_enter Tryz.func65, Tryz.ntmps65
      go_wp2_with fail
      all_goals first
        | (exfalso; first | exact Q1.out.1 (by assumption) | omega | (have q3 := Q3.out; omega))
        | skip
      all_goals (
        refine (Trim_any x.word _ hws).mono ?_
        rintro e w1 ⟨rfl, hB⟩
        have HB := Aside0.mk (((Mod.refl (fun _ => False) W).alloc _).below.trans (hB.mono (by simp)))
        clear hB
        cases ht : Lib.trimS x.word.data.toList [48, 49, 50, 51, 52, 53, 54, 55, 56, 57] with
        | nil =>
          obtain ⟨n, hn⟩ := HT.out.1 ht
          have HN2 := Aside0.mk hn
          clear ht
          go_wp2_with fail
          all_goals first
            | (exfalso; first | (simp_all; done) | (simp_all; omega))
            | skip
          refine (Atoi_any x.word n _ (by omega) HN2.out).mono ?_
          rintro e w2 ⟨rfl, hB⟩
          have HB2 := Aside0.mk (HB.out.trans (hB.mono HB.out.size))
          clear hB hn
          go_wp2_with fail
          go_returns
          exact ⟨by rw [HN.out, HN2.out]; rfl, HB2.out⟩
        | cons b r =>
          have HN2 : Aside0 (Lib.decNat x.word.data.toList = none) := ⟨by
            cases hq : Lib.decNat x.word.data.toList with
            | none => rfl
            | some n => have := HT.out.2 ⟨n, hq⟩; rw [ht] at this; cases this⟩
          clear ht
          go_wp2_with fail
          go_returns
          exact ⟨by rw [HN.out, HN2.out]; rfl, HB.out⟩)
    · have HN : Aside0 (numO 3 x.word.data.toList = none) := ⟨by
        unfold numO
        by_cases h1 : x.word.data.toList = []
        · rw [h1]; rfl
        · rw [if_neg (fun q => hp ⟨h1, q.1, q.2⟩)]⟩
      have HP := Aside0.mk hp
      clear hp
      go_enter Tryz.func65, Tryz.ntmps65
      go_wp2_with fail
      all_goals first
        | (go_returns
           exact ⟨by rw [HN.out]; rfl, ((Mod.refl (fun _ => False) W).alloc _).below⟩)
        | (exfalso
           apply HP.out
           simp only [ByteArray.toList_eq] at *
           refine ⟨by assumption, by omega, fun q => ?_⟩
           have hg : x.word.data.toList[0]? = some x.word[0] := List.getElem?_eq_some_iff.2 ⟨by omega, rfl⟩
           obtain ⟨q1, q2⟩ := q
           rw [hg] at q2
           have := congrArg UInt8.toNat (Option.some.inj q2)
           simp at this
           omega)
end Go.Proofs.YthhnhbpmpdminaaGreatDoor
/-
Numerals: the reference's. Conditions: none.
-/
namespace Go.Proofs.YthhnhbpmpdminaaGreatDoor
open Go.RowKit Go.Proofs.YthhnhbpmpdminaaGreatDoorW.PrintWords
set_option maxRecDepth 4096
end Go.Proofs.YthhnhbpmpdminaaGreatDoor
/-
The reader's state in memory; lays. Conditions: the lists' lengths.
-/
namespace Go.Proofs.YthhnhbpmpdminaaGreatDoor
set_option maxRecDepth 4096
open Go.RowKit Go.Proofs.YthhnhbpmpdminaaGreatDoorW.PrintWords
def numsN (bs : List Nat) : List Value := bs.map fun (n : Nat) => Value.int .i64 (n : Int)
theorem Tryz.infoSexp : (Tryz.prog.info? 49).map (fun i => (i.zero, i.size, i.bytes)) = some (some (.agg #[.string ⟨#[]⟩, .bool false, .slice none 0 0]), 3, 48) := by kernel_rfl
theorem Tryz.infoSexps : (Tryz.prog.info? 47).map (fun i => (i.zero, i.size, i.bytes)) = some (some (.slice none 0 0), 1, 24) := by kernel_rfl
theorem Tryz.infoInt : (Tryz.prog.info? 3).map (fun i => (i.zero, i.size, i.bytes)) = some (some (.int .i64 0), 1, 8) := by kernel_rfl
/-- A row's own block, its cells. -/
theorem own_row {w : World} {base e size n : Nat} {v : Value} {xs : List Value} (h : w.ownsRow base e size v n xs) (hn : 0 < n) : ∃ g cap l, v = .slice (some ⟨g, 0, none⟩) n cap ∧ Cells w g e l ∧ base ≤ g ∧ n ≤ cap ∧ l.take (n * size) = xs ∧ cap ≤ 9223372036854775807 := by
  rcases h.2 with ⟨_, h0⟩ | ⟨g, cap, cur, rfl, hb, hh, hn, hc, _, ht⟩
  · omega
  · exact ⟨g, cap, cur.toList, rfl, by simpa [Cells] using hh, hb, hn, ht, hc⟩
end Go.Proofs.YthhnhbpmpdminaaGreatDoor
/-
Two equal things are the same: the reference's Same. Conditions: both lie in memory.
-/
namespace Go.Proofs.YthhnhbpmpdminaaGreatDoor
set_option maxRecDepth 4096
open Go.RowKit Go.Proofs.YthhnhbpmpdminaaGreatDoorW.PrintWords Go.Proofs.YthhnhbpmpdminaaGreatDoorW.PrintLast
mutual
def Sx.dep : Sx → Nat
  | ⟨_, _, ks⟩ => Sx.depL ks + 1
def Sx.depL : List Sx → Nat
  | [] => 0
  | k :: r => max k.dep (Sx.depL r)
end
theorem Sx.dep_eq (x : Sx) : x.dep = Sx.depL x.kids + 1 := by cases x; rfl
theorem Sx.depL_mem {l : List Sx} : ∀ {k : Sx}, k ∈ l → k.dep ≤ Sx.depL l := by
  induction l with
  | nil => intro k h; cases h
  | cons a r ih =>
    intro k h
    unfold Sx.depL
    rcases List.mem_cons.1 h with rfl | h
    · omega
    · have := ih h; omega
/-- A thing's kid, read. -/
theorem RL_kid {w : World} {S : Nat → Prop} {A : Option Addr} {ks : List Sx} (h : RL w S ks A 0) (i : Nat) (hi : i < ks.length) : ∃ ad A' c', A = some ad ∧ S ad.block ∧
    RT w S ks[i] [.string ks[i].word, .bool ks[i].list, .slice A' ks[i].kids.length c'] ∧ RL w S ks[i].kids A' 0 ∧
    w.cell? (ad.add (i * 3)) = some (.string ks[i].word) ∧ w.cell? ⟨(ad.add (i * 3)).block, (ad.add (i * 3)).off + 1, none⟩ = some (.bool ks[i].list) ∧ w.cell? ⟨(ad.add (i * 3)).block, (ad.add (i * 3)).off + 2, none⟩ = some (.slice A' ks[i].kids.length c') := by
  obtain ⟨ad, cs, h1, h2, h3, h4⟩ := RL_get ks 0 h i ks[i] (List.getElem?_eq_getElem hi)
  obtain ⟨A', c', rfl, h5, h6, h7, h8⟩ := RT_cells h4
  refine ⟨ad, A', c', h1, h2, h4, h8, ?_, ?_, ?_⟩
  · have := h3 0 _ rfl; simpa using this
  · have := h3 1 _ rfl
    rw [show (⟨(ad.add (i * 3)).block, (ad.add (i * 3)).off + 1, none⟩ : Addr) = (ad.add (i * 3)).add 1 from rfl, add_add]; simpa using this
  · have := h3 2 _ rfl
    rw [show (⟨(ad.add (i * 3)).block, (ad.add (i * 3)).off + 2, none⟩ : Addr) = (ad.add (i * 3)).add 2 from rfl, add_add]; simpa using this
theorem RL_none {w : World} {S : Nat → Prop} {ks : List Sx} (h : RL w S ks none 0) : ks.length = 0 := by
  cases ks with
  | nil => rfl
  | cons k r => unfold RL at h; obtain ⟨⟨ad, _, h1, _⟩, _⟩ := h; cases h1
theorem Mod.cell {w w' : World} (hm : Mod (fun _ => False) w w') {p : Addr} {v : Value} (h : w.cell? p = some v) : w'.cell? p = some v := by
  have hb : p.block < w.heap.size := by
    by_cases hb : p.block < w.heap.size
    · exact hb
    · unfold World.cell? at h
      rw [Array.getElem?_eq_none (by omega)] at h
      cases h
  rw [World.cell?_of_block (hm.keep p.block hb (fun q => q))]; exact h
theorem Mod.RT {w w' : World} (hm : Mod (fun _ => False) w w') {x : Sx} {cs : List Value} (h : RT w (fun k => k < w.heap.size) x cs) : RT w' (fun k => k < w'.heap.size) x cs :=
  RT_move (fun k hk => hm.keep k hk (fun q => q)) (fun _ hk => Nat.lt_of_lt_of_le hk hm.size) x cs h
theorem Mod.RL {w w' : World} (hm : Mod (fun _ => False) w w') {ks : List Sx} {A : Option Addr} {j : Nat} (h : RL w (fun k => k < w.heap.size) ks A j) : RL w' (fun k => k < w'.heap.size) ks A j :=
  RL_move (fun k hk => hm.keep k hk (fun q => q)) (fun _ hk => Nat.lt_of_lt_of_le hk hm.size) ks A j h
end Go.Proofs.YthhnhbpmpdminaaGreatDoor
