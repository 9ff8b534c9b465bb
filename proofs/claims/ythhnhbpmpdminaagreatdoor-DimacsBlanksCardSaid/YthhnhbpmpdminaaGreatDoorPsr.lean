/-
The reader of bracketed texts, as a plain function on bytes. Conditions: none.
-/
import Derived.Test.YthhnhbpmpdminaaGreatDoorSx
namespace Go.Proofs.YthhnhbpmpdminaaGreatDoor
set_option maxRecDepth 4096

def plainB (b : UInt8) : Bool := (97 ≤ b && b ≤ 122) || (65 ≤ b && b ≤ 90) || (48 ≤ b && b ≤ 57) || ([126, 33, 64, 36, 37, 94, 38, 42, 95, 45, 43, 61, 60, 62, 46, 63, 47, 35, 58, 39, 44] : List UInt8).contains b
def blankB (b : UInt8) : Bool := b == 32 || b == 9 || b == 10 || b == 13
def notBar (b : UInt8) : Bool := b != 124 && b != 10
def notEol (b : UInt8) : Bool := b != 10

/-- The first place from i on at which f doesn't hold. -/
def scan (f : UInt8 → Bool) (l : List UInt8) (i : Nat) : Nat := i + ((l.drop i).takeWhile f).length
theorem scan_ge (f : UInt8 → Bool) (l : List UInt8) (i : Nat) : i ≤ scan f l i := Nat.le_add_right _ _
theorem scan_le (f : UInt8 → Bool) (l : List UInt8) (i : Nat) (h : i ≤ l.length) : scan f l i ≤ l.length := by
  unfold scan
  have : ((l.drop i).takeWhile f).length ≤ (l.drop i).length := List.Sublist.length_le (List.takeWhile_sublist _)
  rw [List.length_drop] at this
  omega
theorem scan_end (f : UInt8 → Bool) (l : List UInt8) (i : Nat) (h : l.length ≤ i) : scan f l i = i := by
  unfold scan; rw [List.drop_eq_nil_of_le h]; rfl
theorem scan_yes (f : UInt8 → Bool) (l : List UInt8) (i : Nat) (h : i < l.length) (hf : f l[i] = true) : scan f l i = scan f l (i + 1) := by
  unfold scan; rw [List.drop_eq_getElem_cons h, List.takeWhile_cons, if_pos hf]; simp; omega
theorem scan_no (f : UInt8 → Bool) (l : List UInt8) (i : Nat) (h : i < l.length) (hf : f l[i] = false) : scan f l i = i := by
  unfold scan; rw [List.drop_eq_getElem_cons h, List.takeWhile_cons, if_neg (by simp [hf])]; simp

/-- The reader: how far it is, the innermost open list, the lists about it with the places of their brackets. -/
structure PSt where
  i : Nat
  cur : List Sx
  stk : List (Nat × List Sx)

def cut (t : List UInt8) (i j : Nat) : ByteArray := ⟨((t.drop i).take (j - i)).toArray⟩
def wordSx (w : ByteArray) : Sx := ⟨w, false, []⟩
def listSx (l : List Sx) : Sx := ⟨⟨#[]⟩, true, l⟩

/-- One step, at byte b: the new state, or the place and the number of an error. -/
def pstep (t : List UInt8) (p : PSt) (b : UInt8) : Except (Nat × Nat) PSt :=
  if blankB b then .ok { p with i := p.i + 1 }
  else if b == 59 then .ok { p with i := scan notEol t p.i }
  else if b == 40 then
    if p.stk.length = 200 then .error (p.i, 23) else .ok ⟨p.i + 1, [], (p.i, p.cur) :: p.stk⟩
  else if b == 41 then
    match p.stk with
    | [] => .error (p.i, 21)
    | (_, l) :: r => .ok ⟨p.i + 1, l ++ [listSx p.cur], r⟩
  else if b == 124 then
    if t[scan notBar t (p.i + 1)]? = some 124 then .ok ⟨scan notBar t (p.i + 1) + 1, p.cur ++ [wordSx (cut t p.i (scan notBar t (p.i + 1) + 1))], p.stk⟩
    else .error (p.i, 22)
  else if plainB b then .ok ⟨scan plainB t p.i, p.cur ++ [wordSx (cut t p.i (scan plainB t p.i))], p.stk⟩
  else .error (p.i, 22)

def prun (t : List UInt8) : Nat → PSt → Except (Nat × Nat) PSt
  | 0, p => .ok p
  | n + 1, p => match t[p.i]? with
    | none => .ok p
    | some b => match pstep t p b with
      | .error e => .error e
      | .ok q => prun t n q

def pfin (p : PSt) : Except (Nat × Nat) (List Sx) := match p.stk with
  | (i, _) :: _ => .error (i, 20)
  | [] => .ok p.cur

def parse (t : List UInt8) : Except (Nat × Nat) (List Sx) :=
  if 65536 < t.length then .error (0, 24) else
  match prun t t.length ⟨0, [], []⟩ with
  | .error e => .error e
  | .ok p => pfin p

def PSt.lists (p : PSt) : List (List Sx) := (p.stk.map (·.2)).reverse ++ [p.cur]
def PSt.begs (p : PSt) : List Nat := (p.stk.map (·.1)).reverse
structure PSt.Ok (t : List UInt8) (p : PSt) : Prop where
  le : p.i ≤ t.length
  deep : p.stk.length ≤ 200
  cur : p.cur.length ≤ p.i
  all : ∀ x, x ∈ p.stk → x.2.length ≤ p.i

theorem pstep_ok {t : List UInt8} {p q : PSt} {b : UInt8} (hp : p.Ok t) (hb : t[p.i]? = some b) (h : pstep t p b = .ok q) : q.Ok t ∧ p.i < q.i := by
  have hi : p.i < t.length := (List.getElem?_eq_some_iff.1 hb).1
  have hbi : t[p.i] = b := by
    have := List.getElem?_eq_getElem hi
    rw [this] at hb; exact Option.some.inj hb
  have up : ∀ j, p.i ≤ j → ∀ x, x ∈ p.stk → x.2.length ≤ j := fun j hj x hx => Nat.le_trans (hp.all x hx) hj
  have hc := hp.cur
  unfold pstep at h
  split at h
  · injection h with h; subst h
    exact ⟨⟨hi, hp.deep, by simp; omega, up _ (by simp)⟩, by simp⟩
  split at h
  · rename_i h59
    injection h with h; subst h
    have hs : scan notEol t p.i = scan notEol t (p.i + 1) := scan_yes _ _ _ hi (by rw [hbi, eq_of_beq h59]; rfl)
    have := scan_ge notEol t (p.i + 1)
    refine ⟨⟨scan_le _ _ _ hp.le, hp.deep, ?_, up _ ?_⟩, ?_⟩ <;> simp <;> omega
  split at h
  · split at h
    · cases h
    · injection h with h; subst h
      refine ⟨⟨hi, ?_, by simp, ?_⟩, by simp⟩
      · have := hp.deep; simp; omega
      · intro x hx
        simp at hx
        rcases hx with rfl | hx
        · simp; omega
        · exact up _ (by simp) x hx
  split at h
  · split at h
    · cases h
    · rename_i e l r hst
      injection h with h; subst h
      have h1 := hp.all _ (by rw [hst]; exact List.mem_cons_self ..)
      have h2 := hp.deep
      rw [hst] at h2
      refine ⟨⟨hi, by simp at h2 ⊢; omega, by simp at h1 ⊢; omega, fun x hx => up _ (by simp) x (by rw [hst]; exact List.mem_cons_of_mem _ hx)⟩, by simp⟩
  split at h
  · split at h
    · rename_i hbar
      injection h with h; subst h
      have h1 := scan_ge notBar t (p.i + 1)
      have h2 := (List.getElem?_eq_some_iff.1 hbar).1
      refine ⟨⟨?_, hp.deep, ?_, up _ ?_⟩, ?_⟩ <;> simp <;> omega
    · cases h
  split at h
  · rename_i hpl
    injection h with h; subst h
    have hs : scan plainB t p.i = scan plainB t (p.i + 1) := scan_yes _ _ _ hi (by rw [hbi]; exact hpl)
    have h1 := scan_ge plainB t (p.i + 1)
    refine ⟨⟨scan_le _ _ _ hp.le, hp.deep, ?_, up _ ?_⟩, ?_⟩ <;> simp <;> omega
  · cases h
end Go.Proofs.YthhnhbpmpdminaaGreatDoor
