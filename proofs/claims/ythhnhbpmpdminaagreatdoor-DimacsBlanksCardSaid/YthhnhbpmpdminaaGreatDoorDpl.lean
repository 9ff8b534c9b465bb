/-
Lines and words by bytes: what Go's library tells of a text, in plain words. Conditions: none.
-/
import Derived.Lib.FieldsP
import Derived.Lib.SplitLaws
import Derived.Lib.MapLaws
import Derived.Lib.OthersKept
import Derived.Laws.RangeAny
import Derived.Lib.SpaceUEq
import Derived.Test.YthhnhbpmpdminaaGreatDoorXC
namespace Go.Proofs.YthhnhbpmpdminaaGreatDoor
open Go.Lib

def wl (cur : List UInt8) : List UInt8 → List (List UInt8)
  | [] => if cur = [] then [] else [cur]
  | b :: l => if b = 32 then (if cur = [] then wl [] l else cur :: wl [] l) else wl (cur ++ [b]) l
def ll (cur : List UInt8) : List UInt8 → List (List UInt8)
  | [] => [cur]
  | b :: l => if b = 10 then cur :: ll [] l else ll (cur ++ [b]) l
theorem wl_skip : ∀ (pre cur l : List UInt8), (∀ b ∈ pre, b ≠ 32) → wl cur (pre ++ l) = wl (cur ++ pre) l
  | [], cur, l, _ => by simp
  | b :: pre, cur, l, h => by
    show (if b = 32 then _ else wl (cur ++ [b]) (pre ++ l)) = _
    rw [if_neg (h b (by simp)), wl_skip pre _ l (fun x hx => h x (by simp [hx])), List.append_assoc]
    rfl
theorem byte_at (s : ByteArray) (i : Nat) (h : i < s.size) : s.data.toList[i]? = some (s[i]'h) := by
  obtain ⟨⟨l⟩⟩ := s
  exact List.getElem?_eq_getElem h
theorem word_step (s : ByteArray) (pos : Nat) (h : pos < s.size) :
    (((Utf8.decode s pos).1 == 32) = true → s.data.toList.drop pos = 32 :: s.data.toList.drop (pos + (Utf8.decode s pos).2)) ∧
    (((Utf8.decode s pos).1 == 32) = false → ∀ cur, wl cur (s.data.toList.drop pos) = wl (cur ++ (s.data.toList.drop pos).take (Utf8.decode s pos).2) (s.data.toList.drop (pos + (Utf8.decode s pos).2))) := by
  have hp := byte_at s pos h
  have hl : pos < s.data.toList.length := (List.getElem?_eq_some_iff.1 hp).1
  have hd : s.data.toList.drop pos = s[pos]'h :: s.data.toList.drop (pos + 1) := by
    rw [List.drop_eq_getElem_cons hl, (List.getElem?_eq_some_iff.1 hp).2]
  by_cases ha : (s[pos]'h).toNat < 128
  · rw [decode_ascii s pos h ha]
    refine ⟨fun e => ?_, fun e cur => ?_⟩
    · rw [hd]
      congr 1
      exact UInt8.toNat_inj.1 (beq_iff_eq.1 e)
    · rw [hd]
      show (if s[pos]'h = 32 then _ else wl (cur ++ [s[pos]'h]) _) = _
      rw [if_neg (fun q => by rw [q] at e; cases e)]
      rfl
  · have hh := decode_high s pos h (by omega)
    refine ⟨fun e => by have := beq_iff_eq.1 e; omega, fun _ cur => ?_⟩
    have e1 : s.data.toList.drop pos = (s.data.toList.drop pos).take (Utf8.decode s pos).2 ++ s.data.toList.drop (pos + (Utf8.decode s pos).2) := by
      rw [← List.drop_drop, List.take_append_drop]
    refine (congrArg (wl cur) e1).trans (wl_skip _ _ _ ?_)
    intro b hb
    obtain ⟨j, hj, rfl⟩ := List.mem_iff_getElem.1 hb
    have hj2 := hj
    rw [List.length_take, List.length_drop] at hj2
    have hjs : pos + j < s.size := by rw [Lib.size_eq]; omega
    have hv : ((s.data.toList.drop pos).take (Utf8.decode s pos).2)[j] = s[pos + j]'hjs := by
      rw [List.getElem_take, List.getElem_drop]
      have := byte_at s (pos + j) hjs
      exact (List.getElem?_eq_some_iff.1 this).2
    rw [hv]
    intro q
    have hg : ∀ i (hi : i < s.size), s.get! i = s[i]'hi := fun i hi => by cases s with | mk d => exact getElem!_pos d i hi
    have hc := decodeN_conts (s.size - pos) (s.get! pos).toNat (s.get! (pos + 1)).toNat (s.get! (pos + 2)).toNat (s.get! (pos + 3)).toNat
    rw [← decode_at] at hc
    obtain ⟨h1, h2, h3, h4⟩ := hc
    have hjk : j < (Utf8.decode s pos).2 := by omega
    have q2 : (s.get! (pos + j)).toNat = 32 := by rw [hg _ hjs, q]; rfl
    rcases (by omega : j = 0 ∨ j = 1 ∨ j = 2 ∨ j = 3) with rfl | rfl | rfl | rfl
    · rw [Nat.add_zero, hg _ h] at q2; omega
    · have := (h1 (by omega)).1; omega
    · have := (h2 (by omega)).1; omega
    · have := (h3 (by omega)).1; omega
theorem wl_nil_end (cur : List UInt8) : wl cur [] = if cur = [] then [] else [cur] := rfl
theorem spans_wl (s : ByteArray) : ∀ (f pos : Nat) (st : Option Nat) (acc : List (Nat × Nat)), s.size ≤ pos + f → pos ≤ s.size → (∀ a, st = some a → a < pos) →
    acc.map (fun p => pieceU s.data.toList p.1 p.2) ++ wl (openPiece s.data.toList st pos) (s.data.toList.drop pos) = (closeSpans s (spansFromP (fun r => r == 32) s f pos st acc)).map (fun p => pieceU s.data.toList p.1 p.2) := by
  have key : ∀ (st : Option Nat) (acc : List (Nat × Nat)), (∀ a, st = some a → a < s.size) → acc.map (fun p => pieceU s.data.toList p.1 p.2) ++ wl (openPiece s.data.toList st s.size) (s.data.toList.drop s.size) = (closeSpans s (acc, st)).map (fun p => pieceU s.data.toList p.1 p.2) := by
    intro st acc hst
    have hd : s.data.toList.drop s.size = [] := List.drop_eq_nil_of_le (by rw [← Lib.size_eq]; exact Nat.le_refl _)
    rw [hd, wl_nil_end]
    cases st with
    | none => simp [closeSpans, openPiece]
    | some a =>
      have := pieceU_ne s.data.toList a s.size (hst a rfl) (by rw [← Lib.size_eq]; exact Nat.le_refl _)
      simp [closeSpans, openPiece, this]
  intro f
  induction f with
  | zero =>
    intro pos st acc h hp hst
    obtain rfl : pos = s.size := by omega
    exact key st acc hst
  | succ f ih =>
    intro pos st acc h hp hst
    by_cases hlt : pos < s.size
    · have hw := width_pos s pos
      have hwn : pos + (Utf8.decode s pos).2 ≤ s.size := by
        have := decodeN_le_n' (s.size - pos) (s.get! pos).toNat (s.get! (pos + 1)).toNat (s.get! (pos + 2)).toNat (s.get! (pos + 3)).toNat (by omega)
        rw [← decode_at] at this
        omega
      obtain ⟨s1, s2⟩ := word_step s pos hlt
      simp only [spansFromP, if_pos hlt]
      obtain ⟨B, hB⟩ : ∃ B, ((Utf8.decode s pos).1 == 32) = B := ⟨_, rfl⟩
      cases B with
      | true =>
        rw [s1 hB, if_pos hB]
        cases st with
        | none =>
          have := ih (pos + (Utf8.decode s pos).2) none acc (by omega) hwn (fun a h => by cases h)
          simpa [openPiece, wl] using this
        | some a =>
          have hpn := pieceU_ne s.data.toList a pos (hst a rfl) (by rw [← Lib.size_eq]; omega)
          have := ih (pos + (Utf8.decode s pos).2) none (acc ++ [(a, pos)]) (by omega) hwn (fun a h => by cases h)
          simpa [openPiece, hpn, wl] using this
      | false =>
        rw [s2 hB, if_neg (by rw [hB]; simp)]
        cases st with
        | none =>
          have := ih (pos + (Utf8.decode s pos).2) (some pos) acc (by omega) hwn (fun a h => by cases h; omega)
          have e : ([] : List UInt8) ++ (s.data.toList.drop pos).take (Utf8.decode s pos).2 = pieceU s.data.toList pos (pos + (Utf8.decode s pos).2) := by
            unfold pieceU
            rw [List.nil_append, Nat.add_sub_cancel_left]
          simp only [openPiece] at this ⊢
          rw [e]
          exact this
        | some a =>
          have := ih (pos + (Utf8.decode s pos).2) (some a) acc (by omega) hwn (fun b h => by cases h; have := hst a rfl; omega)
          simp only [openPiece] at this ⊢
          rw [pieceU_grow _ _ _ _ (Nat.le_of_lt (hst a rfl))]
          exact this
    · obtain rfl : pos = s.size := by omega
      rw [spansFromP_end _ s _ _ _ _ hlt]
      exact key st acc hst
theorem words_wl (s : ByteArray) : datas (wordsP s) = wl [] s.data.toList := by
  have h := spans_wl s s.size 0 none [] (by omega) (Nat.zero_le _) (fun a h => by cases h)
  simp only [List.map_nil, List.nil_append, openPiece, List.drop_zero] at h
  rw [h]
  unfold datas wordsP goFieldsP spansOfP
  rw [List.map_map]
  congr 1
  funext p
  simp [pieceU]
theorem split_ll (l : List UInt8) : ∀ cur, ∃ first rest, splitK [10] 0 (l.count 10) l = first :: rest ∧ ll cur l = (cur ++ first) :: rest := by
  induction l with
  | nil => intro cur; exact ⟨[], [], rfl, by simp [ll]⟩
  | cons b l ih =>
    intro cur
    by_cases hb : b = 10
    · subst hb
      obtain ⟨f, r, e1, e2⟩ := ih []
      refine ⟨[], f :: r, ?_, ?_⟩
      · rw [List.count_cons_self]
        have hi : index (10 :: l) [10] = 0 := by rw [index_one]; simp [indexByte]
        rw [splitK, if_neg (by rw [hi]; decide), hi]
        simpa using e1
      · show (if (10 : UInt8) = 10 then cur :: ll [] l else _) = _
        rw [if_pos rfl, e2]; simp
    · obtain ⟨f, r, e1, e2⟩ := ih (cur ++ [b])
      have hc : (b :: l).count 10 = l.count 10 := List.count_cons_of_ne (by simpa using hb)
      have hL : ll cur (b :: l) = ll (cur ++ [b]) l := by
        show (if b = 10 then _ else ll (cur ++ [b]) l) = _
        rw [if_neg hb]
      rw [hc, hL, e2]
      cases hk : l.count 10 with
      | zero =>
        rw [hk] at e1
        have e1 : [l] = f :: r := e1
        cases e1
        exact ⟨b :: l, [], rfl, by simp⟩
      | succ k =>
        rw [hk] at e1
        have hbb : (b == (10 : UInt8)) = false := by simpa using hb
        have hix : index (b :: l) [10] = if index l [10] == -1 then -1 else index l [10] + 1 := by
          rw [index_one, index_one]
          show (if (b == 10) = true then (0 : Int) else _) = _
          rw [hbb]; rfl
        have hge := index_ge l [10]
        have hm : index l [10] ≠ -1 := by
          intro q
          have := Lib.count_miss q
          rw [count_one, hk] at this
          omega
        rw [splitK, if_neg (by simpa using hm)] at e1
        rw [if_neg (by simpa using hm)] at hix
        obtain ⟨j, hj⟩ : ∃ j : Nat, index l [10] = j := ⟨(index l [10]).toNat, by omega⟩
        rw [hj] at e1 hix
        simp only [List.cons.injEq] at e1
        obtain ⟨rfl, rfl⟩ := e1
        refine ⟨b :: l.take j, splitK [10] 0 k (l.drop (j + 1)), ?_, by simp⟩
        have hn : ((j : Int) + 1).toNat = j + 1 := by omega
        rw [splitK, hix, if_neg (by simp; omega), hn]
        rfl
theorem lines_ll (s : ByteArray) : datas (linesP s) = ll [] s.data.toList := by
  obtain ⟨f, r, e1, e2⟩ := split_ll s.data.toList []
  unfold datas linesP
  rw [splitB_data]
  show splitK [10] 0 (count s.data.toList [10]) s.data.toList = _
  rw [count_one, e1, e2]
  simp
theorem ll_length (l : List UInt8) : ∀ cur, (ll cur l).length ≤ l.length + 1 := by
  induction l with
  | nil => intro cur; exact Nat.le_refl _
  | cons b l ih =>
    intro cur
    unfold ll
    split
    · have := ih []; simp only [List.length_cons]; omega
    · have := ih (cur ++ [b]); simp only [List.length_cons]; omega
theorem ll_each (l : List UInt8) : ∀ cur, ∀ x ∈ ll cur l, x.length ≤ cur.length + l.length := by
  induction l with
  | nil =>
    intro cur x hx
    have hx : x ∈ [cur] := hx
    rw [List.mem_singleton] at hx
    subst hx; simp
  | cons b l ih =>
    intro cur x hx
    unfold ll at hx
    split at hx
    · rcases List.mem_cons.1 hx with rfl | hx
      · simp
      · have := ih [] x hx; simp at this ⊢; omega
    · have := ih (cur ++ [b]) x hx; simp at this ⊢; omega
theorem wl_length (l : List UInt8) : ∀ cur, (wl cur l).length ≤ l.length + 1 := by
  induction l with
  | nil => intro cur; rw [wl_nil_end]; split <;> simp
  | cons b l ih =>
    intro cur
    unfold wl
    split
    · have := ih []
      split
      · simp only [List.length_cons]; omega
      · simp only [List.length_cons]; omega
    · have := ih (cur ++ [b]); simp only [List.length_cons]; omega
theorem wl_each (l : List UInt8) : ∀ cur, ∀ x ∈ wl cur l, x.length ≤ cur.length + l.length := by
  induction l with
  | nil =>
    intro cur x hx
    rw [wl_nil_end] at hx
    split at hx
    · simp at hx
    · rw [List.mem_singleton] at hx; subst hx; simp
  | cons b l ih =>
    intro cur x hx
    unfold wl at hx
    split at hx
    · split at hx
      · have := ih [] x hx; simp at this ⊢; omega
      · rcases List.mem_cons.1 hx with rfl | hx
        · simp
        · have := ih [] x hx; simp at this ⊢; omega
    · have := ih (cur ++ [b]) x hx; simp at this ⊢; omega
end Go.Proofs.YthhnhbpmpdminaaGreatDoor
