/-
An abstract memory: what a value is, with names of its own for blocks, and how it stands for the model's. Conditions: none.
-/
import Derived.Control
import Derived.Calls
import Derived.Orders
import Derived.KernelRfl
import Derived.Laws.AppendOwn
namespace Go.Proofs.YthhnhbpmpdminaaGreatDoor
namespace Ab
set_option maxRecDepth 4096

/-- A table by numbers. -/
inductive O8 where
  | o0 | o1 | o2 | o3 | o4 | o5 | o6 | o7
def o8 : Nat → O8
  | 0 => .o0
  | 1 => .o1
  | 2 => .o2
  | 3 => .o3
  | 4 => .o4
  | 5 => .o5
  | 6 => .o6
  | _ => .o7
theorem o8_inj : ∀ {r s : Nat}, r < 8 → s < 8 → o8 r = o8 s → r = s
  | 0, 0, _, _, _ | 1, 1, _, _, _ | 2, 2, _, _, _ | 3, 3, _, _, _ | 4, 4, _, _, _ | 5, 5, _, _, _ | 6, 6, _, _, _ | 7, 7, _, _, _ => rfl
  | 0, 1, _, _, h | 0, 2, _, _, h | 0, 3, _, _, h | 0, 4, _, _, h | 0, 5, _, _, h | 0, 6, _, _, h | 0, 7, _, _, h => by cases h
  | 1, 0, _, _, h | 1, 2, _, _, h | 1, 3, _, _, h | 1, 4, _, _, h | 1, 5, _, _, h | 1, 6, _, _, h | 1, 7, _, _, h => by cases h
  | 2, 0, _, _, h | 2, 1, _, _, h | 2, 3, _, _, h | 2, 4, _, _, h | 2, 5, _, _, h | 2, 6, _, _, h | 2, 7, _, _, h => by cases h
  | 3, 0, _, _, h | 3, 1, _, _, h | 3, 2, _, _, h | 3, 4, _, _, h | 3, 5, _, _, h | 3, 6, _, _, h | 3, 7, _, _, h => by cases h
  | 4, 0, _, _, h | 4, 1, _, _, h | 4, 2, _, _, h | 4, 3, _, _, h | 4, 5, _, _, h | 4, 6, _, _, h | 4, 7, _, _, h => by cases h
  | 5, 0, _, _, h | 5, 1, _, _, h | 5, 2, _, _, h | 5, 3, _, _, h | 5, 4, _, _, h | 5, 6, _, _, h | 5, 7, _, _, h => by cases h
  | 6, 0, _, _, h | 6, 1, _, _, h | 6, 2, _, _, h | 6, 3, _, _, h | 6, 4, _, _, h | 6, 5, _, _, h | 6, 7, _, _, h => by cases h
  | 7, 0, _, _, h | 7, 1, _, _, h | 7, 2, _, _, h | 7, 3, _, _, h | 7, 4, _, _, h | 7, 5, _, _, h | 7, 6, _, _, h => by cases h
  | _ + 8, _, h, _, _ => absurd h (by omega)
  | _, _ + 8, _, h, _ => absurd h (by omega)
structure N8 (β : Type) where
  a : β
  b : β
  c : β
  d : β
  e : β
  f : β
  g : β
  h : β
def N8.all {β : Type} (x : β) : N8 β := ⟨x, x, x, x, x, x, x, x⟩
section
variable {β : Type}
def upd0 (F : β → β) (t : N8 β) : N8 β := N8.casesOn (motive := fun _ => N8 β) t fun a b c d e f g h => ⟨F a, b, c, d, e, f, g, h⟩
def upd1 (F : β → β) (t : N8 β) : N8 β := N8.casesOn (motive := fun _ => N8 β) t fun a b c d e f g h => ⟨a, F b, c, d, e, f, g, h⟩
def upd2 (F : β → β) (t : N8 β) : N8 β := N8.casesOn (motive := fun _ => N8 β) t fun a b c d e f g h => ⟨a, b, F c, d, e, f, g, h⟩
def upd3 (F : β → β) (t : N8 β) : N8 β := N8.casesOn (motive := fun _ => N8 β) t fun a b c d e f g h => ⟨a, b, c, F d, e, f, g, h⟩
def upd4 (F : β → β) (t : N8 β) : N8 β := N8.casesOn (motive := fun _ => N8 β) t fun a b c d e f g h => ⟨a, b, c, d, F e, f, g, h⟩
def upd5 (F : β → β) (t : N8 β) : N8 β := N8.casesOn (motive := fun _ => N8 β) t fun a b c d e f g h => ⟨a, b, c, d, e, F f, g, h⟩
def upd6 (F : β → β) (t : N8 β) : N8 β := N8.casesOn (motive := fun _ => N8 β) t fun a b c d e f g h => ⟨a, b, c, d, e, f, F g, h⟩
def upd7 (F : β → β) (t : N8 β) : N8 β := N8.casesOn (motive := fun _ => N8 β) t fun a b c d e f g h => ⟨a, b, c, d, e, f, g, F h⟩
inductive SelW (β : Type) where
  | mk (g : N8 β → β) (u : (β → β) → N8 β → N8 β)
def selW (o : O8) : SelW β :=
  match o with
  | .o0 => .mk N8.a (upd0)
  | .o1 => .mk N8.b (upd1)
  | .o2 => .mk N8.c (upd2)
  | .o3 => .mk N8.d (upd3)
  | .o4 => .mk N8.e (upd4)
  | .o5 => .mk N8.f (upd5)
  | .o6 => .mk N8.g (upd6)
  | .o7 => .mk N8.h (upd7)
def sel (o : O8) (t : N8 β) : β := match selW o with | .mk g _ => g t
def upd (o : O8) (F : β → β) (t : N8 β) : N8 β := match selW o with | .mk _ u => u F t
theorem sel_upd_same (o : O8) (F : β → β) (t : N8 β) : sel o (upd o F t) = F (sel o t) := by cases t; cases o <;> rfl
theorem sel_upd_other {o o' : O8} (h : o' ≠ o) (F : β → β) (t : N8 β) : sel o' (upd o F t) = sel o' t := by
  cases t; cases o <;> cases o' <;> first | rfl | exact absurd rfl h
theorem sel_all (o : O8) (x : β) : sel o (N8.all x) = x := by cases o <;> rfl
end
/-- Where a number is laid. -/
inductive Adr where
  | A (a b : O8)
  | B (a b c : O8)
  | C (a b c d : O8)
  | Z (k : Nat)
def adr (k : Nat) : Adr :=
  bif Nat.blt k 64 then .A (o8 (k / 8)) (o8 (k % 8))
  else bif Nat.blt k 576 then .B (o8 ((k - 64) / 64)) (o8 ((k - 64) / 8 % 8)) (o8 ((k - 64) % 8))
  else bif Nat.blt k 4672 then .C (o8 ((k - 576) / 512)) (o8 ((k - 576) / 64 % 8)) (o8 ((k - 576) / 8 % 8)) (o8 ((k - 576) % 8))
  else .Z k
theorem adr_inj {j k : Nat} (h : adr j = adr k) : j = k := by
  have bl : ∀ {a b : Nat}, Nat.blt a b = true → a < b := fun h => Nat.blt_eq.mp h
  have nb : ∀ {a b : Nat}, Nat.blt a b = false → ¬ a < b := fun h q => by rw [Nat.blt_eq.mpr q] at h; cases h
  have m8 : ∀ a : Nat, a % 8 < 8 := fun a => Nat.mod_lt _ (by omega)
  unfold adr at h
  cases j1 : Nat.blt j 64 <;> cases k1 : Nat.blt k 64 <;> simp only [j1, k1, cond_true, cond_false] at h
  · cases j2 : Nat.blt j 576 <;> cases k2 : Nat.blt k 576 <;> simp only [j2, k2, cond_true, cond_false] at h
    · cases j3 : Nat.blt j 4672 <;> cases k3 : Nat.blt k 4672 <;> simp only [j3, k3, cond_true, cond_false] at h
      · injection h
      · cases h
      · cases h
      · have a1 := bl j3
        have a2 := bl k3
        have a3 := nb j2
        have a4 := nb k2
        injection h with h1 h2 h3 h4
        have e1 := o8_inj (by omega) (by omega) h1
        have e2 := o8_inj (m8 _) (m8 _) h2
        have e3 := o8_inj (m8 _) (m8 _) h3
        have e4 := o8_inj (m8 _) (m8 _) h4
        omega
    · cases hc : Nat.blt j 4672 <;> rw [hc] at h <;> cases h
    · cases hc : Nat.blt k 4672 <;> rw [hc] at h <;> cases h
    · have a1 := bl j2
      have a2 := bl k2
      have a3 := nb j1
      have a4 := nb k1
      injection h with h1 h2 h3
      have e1 := o8_inj (by omega) (by omega) h1
      have e2 := o8_inj (m8 _) (m8 _) h2
      have e3 := o8_inj (m8 _) (m8 _) h3
      omega
  · cases h2 : Nat.blt j 576 <;> rw [h2] at h
    · cases hc : Nat.blt j 4672 <;> rw [hc] at h <;> cases h
    · cases h
  · cases h2 : Nat.blt k 576 <;> rw [h2] at h
    · cases hc : Nat.blt k 4672 <;> rw [hc] at h <;> cases h
    · cases h
  · have a1 := bl j1
    have a2 := bl k1
    injection h with h1 h2
    have e1 := o8_inj (by omega) (by omega) h1
    have e2 := o8_inj (m8 _) (m8 _) h2
    omega
structure PT (α : Type) where
  p : N8 (N8 (Option α))
  q : N8 (N8 (N8 (Option α)))
  r : N8 (N8 (N8 (N8 (Option α))))
  z : List (Nat × Option α)
namespace PT
variable {α : Type}
def lf : PT α := ⟨N8.all (N8.all none), N8.all (N8.all (N8.all none)), N8.all (N8.all (N8.all (N8.all none))), []⟩
def onP (F : N8 (N8 (Option α)) → N8 (N8 (Option α))) (t : PT α) : PT α := PT.casesOn (motive := fun _ => PT α) t fun p q r z => ⟨F p, q, r, z⟩
def onQ (F : N8 (N8 (N8 (Option α))) → N8 (N8 (N8 (Option α)))) (t : PT α) : PT α := PT.casesOn (motive := fun _ => PT α) t fun p q r z => ⟨p, F q, r, z⟩
def onR (F : N8 (N8 (N8 (N8 (Option α)))) → N8 (N8 (N8 (N8 (Option α))))) (t : PT α) : PT α := PT.casesOn (motive := fun _ => PT α) t fun p q r z => ⟨p, q, F r, z⟩
def onZ (F : List (Nat × Option α) → List (Nat × Option α)) (t : PT α) : PT α := PT.casesOn (motive := fun _ => PT α) t fun p q r z => ⟨p, q, r, F z⟩
def lookZ (k : Nat) : List (Nat × Option α) → Option α
  | [] => none
  | x :: l => bif Nat.beq x.1 k then x.2 else lookZ k l
inductive Acc (α : Type) where
  | mk (rd : PT α → Option α) (wr : Option α → PT α → PT α)
def accA (x : Adr) : Acc α :=
  match x with
  | .A a b => match selW a with
    | .mk g1 u1 => match selW b with
      | .mk g2 u2 => .mk (fun t => g2 (g1 t.p)) (fun x t => onP (u1 (u2 fun _ => x)) t)
  | .B a b c => match selW a with
    | .mk g1 u1 => match selW b with
      | .mk g2 u2 => match selW c with
        | .mk g3 u3 => .mk (fun t => g3 (g2 (g1 t.q))) (fun x t => onQ (u1 (u2 (u3 fun _ => x))) t)
  | .C a b c d => match selW a with
    | .mk g1 u1 => match selW b with
      | .mk g2 u2 => match selW c with
        | .mk g3 u3 => match selW d with
          | .mk g4 u4 => .mk (fun t => g4 (g3 (g2 (g1 t.r)))) (fun x t => onR (u1 (u2 (u3 (u4 fun _ => x)))) t)
  | .Z k => .mk (fun t => lookZ k t.z) (fun x t => onZ (fun l => (k, x) :: l) t)
def accOf (k : Nat) : Acc α := accA (adr k)
def Acc.rd : Acc α → PT α → Option α
  | .mk rd _ => rd
def Acc.wr : Acc α → Option α → PT α → PT α
  | .mk _ wr => wr
def get (t : PT α) (k : Nat) : Option α := (accOf k).rd t
def set (t : PT α) (k : Nat) (x : Option α) : PT α := (accOf k).wr x t
theorem rdA (a b : O8) (t : PT α) : (accA (.A a b)).rd t = sel b (sel a t.p) := by cases a <;> cases b <;> rfl
theorem wrA (a b : O8) (x : Option α) (t : PT α) : (accA (.A a b)).wr x t = ⟨upd a (upd b fun _ => x) t.p, t.q, t.r, t.z⟩ := by cases t; cases a <;> cases b <;> rfl
theorem rdB (a b c : O8) (t : PT α) : (accA (.B a b c)).rd t = sel c (sel b (sel a t.q)) := by
  unfold sel accA
  simp only []
  cases selW a; cases selW b; cases selW c; rfl
theorem wrB (a b c : O8) (x : Option α) (t : PT α) : (accA (.B a b c)).wr x t = ⟨t.p, upd a (upd b (upd c fun _ => x)) t.q, t.r, t.z⟩ := by
  cases t
  unfold upd accA
  simp only []
  cases selW a; cases selW b; cases selW c; rfl
theorem rdC (a b c d : O8) (t : PT α) : (accA (.C a b c d)).rd t = sel d (sel c (sel b (sel a t.r))) := by
  unfold sel accA
  simp only []
  cases selW a; cases selW b; cases selW c; cases selW d; rfl
theorem wrC (a b c d : O8) (x : Option α) (t : PT α) : (accA (.C a b c d)).wr x t = ⟨t.p, t.q, upd a (upd b (upd c (upd d fun _ => x))) t.r, t.z⟩ := by
  cases t
  unfold upd accA
  simp only []
  cases selW a; cases selW b; cases selW c; cases selW d; rfl
theorem rdZ (k : Nat) (t : PT α) : (accA (.Z k)).rd t = lookZ k t.z := rfl
theorem wrZ (k : Nat) (x : Option α) (t : PT α) : (accA (.Z k)).wr x t = ⟨t.p, t.q, t.r, (k, x) :: t.z⟩ := by cases t; rfl
theorem rd_wr_same (y : Adr) (x : Option α) (t : PT α) : (accA y).rd ((accA y).wr x t) = x := by
  cases y with
  | A a b => rw [rdA, wrA, sel_upd_same, sel_upd_same]
  | B a b c => rw [rdB, wrB, sel_upd_same, sel_upd_same, sel_upd_same]
  | C a b c d => rw [rdC, wrC, sel_upd_same, sel_upd_same, sel_upd_same, sel_upd_same]
  | Z k => rw [rdZ, wrZ]; simp only [lookZ, Nat.beq_refl, cond_true]
theorem rd_wr_other {z y : Adr} (h : z ≠ y) (x : Option α) (t : PT α) : (accA z).rd ((accA y).wr x t) = (accA z).rd t := by
  cases y with
  | A a b =>
    rw [wrA]
    cases z with
    | A a' b' =>
      rw [rdA, rdA]
      by_cases e : a' = a
      · subst e
        by_cases e2 : b' = b
        · subst e2; exact absurd rfl h
        · rw [sel_upd_same, sel_upd_other e2]
      · rw [sel_upd_other e]
    | B => rw [rdB, rdB]
    | C => rw [rdC, rdC]
    | Z => rfl
  | B a b c =>
    rw [wrB]
    cases z with
    | B a' b' c' =>
      rw [rdB, rdB]
      by_cases e : a' = a
      · subst e
        by_cases e2 : b' = b
        · subst e2
          by_cases e3 : c' = c
          · subst e3; exact absurd rfl h
          · rw [sel_upd_same, sel_upd_same, sel_upd_other e3]
        · rw [sel_upd_same, sel_upd_other e2]
      · rw [sel_upd_other e]
    | A => rw [rdA, rdA]
    | C => rw [rdC, rdC]
    | Z => rfl
  | C a b c d =>
    rw [wrC]
    cases z with
    | C a' b' c' d' =>
      rw [rdC, rdC]
      by_cases e : a' = a
      · subst e
        by_cases e2 : b' = b
        · subst e2
          by_cases e3 : c' = c
          · subst e3
            by_cases e4 : d' = d
            · subst e4; exact absurd rfl h
            · rw [sel_upd_same, sel_upd_same, sel_upd_same, sel_upd_other e4]
          · rw [sel_upd_same, sel_upd_same, sel_upd_other e3]
        · rw [sel_upd_same, sel_upd_other e2]
      · rw [sel_upd_other e]
    | A => rw [rdA, rdA]
    | B => rw [rdB, rdB]
    | Z => rfl
  | Z k =>
    rw [wrZ]
    cases z with
    | Z j =>
      rw [rdZ, rdZ]
      have : Nat.beq k j = false := by
        cases q : Nat.beq k j with
        | false => rfl
        | true => exact absurd (by rw [Nat.eq_of_beq_eq_true q]) h
      simp only [lookZ, this, cond_false]
    | A => rw [rdA, rdA]
    | B => rw [rdB, rdB]
    | C => rw [rdC, rdC]
theorem get_lf (j : Nat) : (PT.lf : PT α).get j = none := by
  unfold get accOf
  cases adr j with
  | A => rw [rdA]; simp only [lf, sel_all]
  | B => rw [rdB]; simp only [lf, sel_all]
  | C => rw [rdC]; simp only [lf, sel_all]
  | Z => rfl
theorem get_set (t : PT α) (k : Nat) (x : Option α) (j : Nat) : (t.set k x).get j = if j = k then x else t.get j := by
  unfold get set accOf
  by_cases h : j = k
  · subst h; rw [if_pos rfl, rd_wr_same]
  · rw [if_neg h, rd_wr_other (fun e => h (adr_inj e))]
def ofList : List α → Nat → PT α → PT α
  | [], _, t => t
  | x :: r, i, t => ofList r (i + 1) (t.set i (some x))
theorem get_ofList (l : List α) : ∀ (i : Nat) (t : PT α) (j : Nat), (ofList l i t).get j = if i ≤ j ∧ j < i + l.length then l[j - i]? else t.get j := by
  induction l with
  | nil => intro i t j; rw [ofList, if_neg (by simp)]
  | cons x r ih =>
    intro i t j
    rw [ofList, ih, get_set]
    by_cases h1 : i + 1 ≤ j ∧ j < i + 1 + r.length
    · rw [if_pos h1, if_pos (by simp; omega)]
      rw [show j - i = (j - (i + 1)) + 1 by omega]; simp
    · rw [if_neg h1]
      by_cases h2 : j = i
      · subst h2; rw [if_pos rfl, if_pos (by simp)]; simp
      · rw [if_neg h2, if_neg (by simp at h1 ⊢; omega)]
end PT

/-- A value: pointers and slices go to blocks of the abstract memory; top is any value; rp, ro: memory that nothing writes, by what it holds; em: a slice of no element; lin: a times the unknown number plus b, the unknown number being lo to hi; unk: an unknown value. -/
inductive AVal where
  | top
  | bool (b : Bool)
  | int (k : IntKind) (n : Int)
  | str (s : List UInt8)
  | ptr (a : Option (Nat × Nat))
  | rp (l : List AVal)
  | sl (a : Option (Nat × Nat)) (len cap : Nat) (own : Bool)
  | ro (n : Nat) (l : List AVal)
  | em
  | map (r : Option Nat)
  | fn (f : FuncId) (first captured : List AVal)
  | nilfn
  | iface (t : TypeId) (v : AVal)
  | nilif
  | agg (l : List AVal)
  | tup (l : List AVal)
  | lin (k : IntKind) (a b lo hi : Int)
  | unk (i : Nat)

/-- What abstract blocks are of the model's, and which of these nothing writes. -/
structure Ctx where
  φ : Nat → Option (Nat × Nat)
  imm : Nat → Option Obj
  os : Os
  tape : Nat → Question → Nat
  output : Array (Nat × ByteArray)
  w : Int := 0
  u : Nat → Value := fun _ => .nilFunc
def Ctx.cell (C : Ctx) (k i : Nat) : Option Value :=
  match C.imm k with
  | some (.cells c _ _) => c[i]?
  | _ => none
structure Ctx.Le (C D : Ctx) : Prop where
  φ : ∀ b x, C.φ b = some x → D.φ b = some x
  imm : ∀ k o, C.imm k = some o → D.imm k = some o
  os : D.os = C.os
  tape : D.tape = C.tape
  output : D.output = C.output
  w : D.w = C.w
  u : D.u = C.u
theorem Ctx.Le.refl (C : Ctx) : C.Le C := ⟨fun _ _ h => h, fun _ _ h => h, rfl, rfl, rfl, rfl, rfl⟩
theorem Ctx.Le.trans {C D E : Ctx} (h : C.Le D) (g : D.Le E) : C.Le E :=
  ⟨fun b x q => g.φ b x (h.φ b x q), fun k o q => g.imm k o (h.imm k o q), g.os.trans h.os, g.tape.trans h.tape, g.output.trans h.output, g.w.trans h.w, g.u.trans h.u⟩
theorem Ctx.Le.cell {C D : Ctx} (h : C.Le D) {k i : Nat} {u : Value} (q : C.cell k i = some u) : D.cell k i = some u := by
  unfold Ctx.cell at *
  cases hi : C.imm k with
  | none => rw [hi] at q; cases q
  | some o => rw [h.imm k o hi]; rw [hi] at q; exact q

mutual
inductive VR (C : Ctx) : AVal → Value → Prop
  | top (v : Value) : VR C .top v
  | bool (b : Bool) : VR C (.bool b) (.bool b)
  | int (k : IntKind) (n : Int) : VR C (.int k n) (.int k n)
  | str (s : ByteArray) : VR C (.str s.data.toList) (.string s)
  | ptrN : VR C (.ptr none) (.pointer none)
  | ptr (b o k rc : Nat) (h : C.φ b = some (k, rc)) : VR C (.ptr (some (b, o))) (.pointer (some ⟨k, o, none⟩))
  | rp (l : List AVal) (k o : Nat) (h : RO C l k o) : VR C (.rp l) (.pointer (some ⟨k, o, none⟩))
  | slN (own : Bool) : VR C (.sl none 0 0 own) (.slice none 0 0)
  | sl (b o len cap : Nat) (own : Bool) (k rc cap' : Nat) (h : C.φ b = some (k, rc)) (hl : len ≤ cap) (hc : cap ≤ cap') (ho : own = true → o = 0 ∧ cap' = rc) :
      VR C (.sl (some (b, o)) len cap own) (.slice (some ⟨k, o, none⟩) len cap')
  | ro (n : Nat) (l : List AVal) (k o c : Nat) (h : RO C l k o) (hc : n ≤ c) : VR C (.ro n l) (.slice (some ⟨k, o, none⟩) n c)
  | em (A : Option Addr) (c : Nat) : VR C .em (.slice A 0 c)
  | mapN : VR C (.map none) (.map none)
  | map (b k rc : Nat) (h : C.φ b = some (k, rc)) : VR C (.map (some b)) (.map (some k))
  | fn (f : FuncId) (l m : List AVal) (l' m' : Array Value) (hl : VRs C l l'.toList) (hm : VRs C m m'.toList) : VR C (.fn f l m) (.func (.func f) l' m')
  | nilfn : VR C .nilfn .nilFunc
  | iface (t : TypeId) (a : AVal) (v : Value) (h : VR C a v) : VR C (.iface t a) (.iface t v)
  | nilif : VR C .nilif .nilIface
  | agg (l : List AVal) (l' : Array Value) (h : VRs C l l'.toList) : VR C (.agg l) (.agg l')
  | tup (l : List AVal) (l' : Array Value) (h : VRs C l l'.toList) : VR C (.tup l) (.tuple l')
  | lin (k : IntKind) (a b lo hi : Int) (h1 : lo ≤ C.w) (h2 : C.w ≤ hi) : VR C (.lin k a b lo hi) (.int k (a * C.w + b))
  | unk (i : Nat) : VR C (.unk i) (C.u i)
inductive VRs (C : Ctx) : List AVal → List Value → Prop
  | nil : VRs C [] []
  | cons (a : AVal) (v : Value) (l : List AVal) (l' : List Value) (h : VR C a v) (t : VRs C l l') : VRs C (a :: l) (v :: l')
inductive RO (C : Ctx) : List AVal → Nat → Nat → Prop
  | nil (k o : Nat) : RO C [] k o
  | cons (a : AVal) (l : List AVal) (k o : Nat) (u : Value) (hu : C.cell k o = some u) (h : VR C a u) (t : RO C l k (o + 1)) : RO C (a :: l) k o
end

mutual
theorem VR.mono {C D : Ctx} (hc : C.Le D) : ∀ {a : AVal} {v : Value}, VR C a v → VR D a v
  | _, _, .top v => .top v
  | _, _, .bool b => .bool b
  | _, _, .int k n => .int k n
  | _, _, .str s => .str s
  | _, _, .ptrN => .ptrN
  | _, _, .ptr b o k rc h => .ptr b o k rc (hc.φ _ _ h)
  | _, _, .rp l k o h => .rp l k o (h.mono hc)
  | _, _, .slN own => .slN own
  | _, _, .sl b o len cap own k rc cap' h hl hcp ho => .sl b o len cap own k rc cap' (hc.φ _ _ h) hl hcp ho
  | _, _, .ro n l k o c h hn => .ro n l k o c (h.mono hc) hn
  | _, _, .em A c => .em A c
  | _, _, .mapN => .mapN
  | _, _, .map b k rc h => .map b k rc (hc.φ _ _ h)
  | _, _, .fn f l m l' m' hl hm => .fn f l m l' m' (hl.mono hc) (hm.mono hc)
  | _, _, .nilfn => .nilfn
  | _, _, .iface t a v h => .iface t a v (h.mono hc)
  | _, _, .nilif => .nilif
  | _, _, .agg l l' h => .agg l l' (h.mono hc)
  | _, _, .tup l l' h => .tup l l' (h.mono hc)
  | _, _, .lin k a b lo hi h1 h2 => by
    have e := hc.w
    have h := VR.lin (C := D) k a b lo hi (by rw [e]; exact h1) (by rw [e]; exact h2)
    rwa [e] at h
  | _, _, .unk i => by
    have e := hc.u
    have h := VR.unk (C := D) i
    rwa [e] at h
theorem VRs.mono {C D : Ctx} (hc : C.Le D) : ∀ {l : List AVal} {l' : List Value}, VRs C l l' → VRs D l l'
  | _, _, .nil => .nil
  | _, _, .cons a v l l' h t => .cons a v l l' (h.mono hc) (t.mono hc)
theorem RO.mono {C D : Ctx} (hc : C.Le D) : ∀ {l : List AVal} {k o : Nat}, RO C l k o → RO D l k o
  | _, _, _, .nil k o => .nil k o
  | _, _, _, .cons a l k o u hu h t => .cons a l k o u (hc.cell hu) (h.mono hc) (t.mono hc)
end

section
variable {C : Ctx}
theorem VRs.length {l : List AVal} {l' : List Value} (h : VRs C l l') : l.length = l'.length := by
  induction l generalizing l' with
  | nil => cases h; rfl
  | cons a l ih => cases h with | cons _ v _ l' h t => simp [ih t]
theorem VRs.get {l : List AVal} {l' : List Value} (h : VRs C l l') {i : Nat} {a : AVal} (hi : l[i]? = some a) : ∃ v, l'[i]? = some v ∧ VR C a v := by
  induction l generalizing l' i with
  | nil => simp at hi
  | cons b l ih =>
    cases h with
    | cons _ v _ l' h t =>
      cases i with
      | zero => simp at hi; subst hi; exact ⟨v, rfl, h⟩
      | succ i => simp at hi; obtain ⟨u, hu, hr⟩ := ih t hi; exact ⟨u, by simpa using hu, hr⟩
theorem VRs.of {l : List AVal} {l' : List Value} (hl : l.length = l'.length) (h : ∀ (i : Nat) (a : AVal) (v : Value), l[i]? = some a → l'[i]? = some v → VR C a v) : VRs C l l' := by
  induction l generalizing l' with
  | nil => cases l' with
    | nil => exact .nil
    | cons v l' => simp at hl
  | cons a l ih => cases l' with
    | nil => simp at hl
    | cons v l' => exact .cons _ _ _ _ (h 0 a v rfl rfl) (ih (by simpa using hl) fun i b u hb hu => h (i + 1) b u (by simpa using hb) (by simpa using hu))
theorem VRs.append {l m : List AVal} {l' m' : List Value} (h : VRs C l l') (g : VRs C m m') : VRs C (l ++ m) (l' ++ m') := by
  induction l generalizing l' with
  | nil => cases h; exact g
  | cons a l ih => cases h with | cons _ v _ l' h t => exact .cons _ _ _ _ h (ih t)
theorem VRs.drop {l : List AVal} {l' : List Value} (h : VRs C l l') (n : Nat) : VRs C (l.drop n) (l'.drop n) := by
  induction n generalizing l l' with
  | zero => exact h
  | succ n ih => cases h with
    | nil => exact .nil
    | cons _ v _ l' h t => exact ih t
theorem VRs.take {l : List AVal} {l' : List Value} (h : VRs C l l') (n : Nat) : VRs C (l.take n) (l'.take n) := by
  induction n generalizing l l' with
  | zero => exact .nil
  | succ n ih => cases h with
    | nil => exact .nil
    | cons _ v _ l' h t => exact .cons _ _ _ _ h (ih t)
theorem VRs.set {l : List AVal} {l' : List Value} (h : VRs C l l') (n : Nat) {a : AVal} {v : Value} (ha : VR C a v) : VRs C (l.set n a) (l'.set n v) := by
  induction n generalizing l l' with
  | zero => cases h with
    | nil => exact .nil
    | cons _ v _ l' h t => exact .cons _ _ _ _ ha t
  | succ n ih => cases h with
    | nil => exact .nil
    | cons _ v _ l' h t => exact .cons _ _ _ _ h (ih t)
theorem RO.get {l : List AVal} {k o : Nat} (h : RO C l k o) {i : Nat} {a : AVal} (hi : l[i]? = some a) : ∃ u, C.cell k (o + i) = some u ∧ VR C a u := by
  induction l generalizing o i with
  | nil => simp at hi
  | cons b l ih =>
    cases h with
    | cons _ _ _ _ u hu h t =>
      cases i with
      | zero => simp at hi; subst hi; exact ⟨u, hu, h⟩
      | succ i => simp at hi; obtain ⟨u, hu, hr⟩ := ih t hi; exact ⟨u, by rw [show o + (i + 1) = o + 1 + i by omega]; exact hu, hr⟩
theorem RO.drop {l : List AVal} {k o : Nat} (h : RO C l k o) (n : Nat) : RO C (l.drop n) k (o + n) := by
  induction n generalizing l o with
  | zero => exact h
  | succ n ih => cases h with
    | nil => exact .nil _ _
    | cons _ _ _ _ u hu h t => rw [show o + (n + 1) = o + 1 + n by omega]; exact ih t
theorem RO.take {l : List AVal} {k o : Nat} (h : RO C l k o) (n : Nat) : RO C (l.take n) k o := by
  induction n generalizing l o with
  | zero => exact .nil _ _
  | succ n ih => cases h with
    | nil => exact .nil _ _
    | cons _ _ _ _ u hu h t => exact .cons _ _ _ _ u hu h (ih t)
end

/-- A constant. -/
def absV : Nat → Value → AVal
  | 0, _ => .top
  | n + 1, v => match v with
    | .bool b => .bool b
    | .int k i => .int k i
    | .string s => .str s.data.toList
    | .pointer none => .ptr none
    | .slice none 0 0 => .sl none 0 0 true
    | .map none => .map none
    | .func (.func f) a c => bif a.toList.isEmpty && c.toList.isEmpty then .fn f [] [] else .top
    | .nilFunc => .nilfn
    | .iface t v => .iface t (absV n v)
    | .nilIface => .nilif
    | .agg cs => .agg (cs.toList.map (absV n))
    | .tuple cs => .tup (cs.toList.map (absV n))
    | _ => .top
theorem VRs.map {C : Ctx} {f : Value → AVal} (h : ∀ v, VR C (f v) v) (l : List Value) : VRs C (l.map f) l := by
  induction l with
  | nil => exact .nil
  | cons v l ih => exact .cons _ _ _ _ (h v) ih
theorem absV_VR (C : Ctx) : ∀ (n : Nat) (v : Value), VR C (absV n v) v
  | 0, v => .top v
  | n + 1, v => by
    unfold absV
    split
    · exact .bool _
    · exact .int _ _
    · exact .str _
    · exact .ptrN
    · exact .slN _
    · exact .mapN
    · rename_i f a c
      cases ha : a.toList.isEmpty with
      | false => exact .top _
      | true =>
        cases hc : c.toList.isEmpty with
        | false => exact .top _
        | true => exact .fn _ _ _ _ _ (by rw [List.isEmpty_iff.1 ha]; exact .nil) (by rw [List.isEmpty_iff.1 hc]; exact .nil)
    · exact .nilfn
    · exact .iface _ _ _ (absV_VR C n _)
    · exact .nilif
    · exact .agg _ _ (VRs.map (absV_VR C n) _)
    · exact .tup _ _ (VRs.map (absV_VR C n) _)
    · exact .top _

/-- A value without memory. -/
def conc : Nat → AVal → Option Value
  | 0, _ => none
  | n + 1, v => match v with
    | .bool b => some (.bool b)
    | .int k i => some (.int k i)
    | .str s => some (.string ⟨s.toArray⟩)
    | .agg l => (l.mapM (conc n)).map fun l => .agg l.toArray
    | _ => none
theorem mapM_cons_some {α β : Type} {f : α → Option β} {a : α} {l : List α} {r : List β} (h : (a :: l).mapM f = some r) : ∃ b r', f a = some b ∧ l.mapM f = some r' ∧ r = b :: r' := by
  rw [List.mapM_cons] at h
  cases ha : f a with
  | none => rw [ha] at h; cases h
  | some b =>
    rw [ha] at h
    cases hl : l.mapM f with
    | none => rw [hl] at h; cases h
    | some r' => rw [hl] at h; exact ⟨b, r', rfl, rfl, (Option.some.inj h).symm⟩
theorem conc_VR {C : Ctx} : ∀ (n : Nat) {a : AVal} {v v' : Value}, conc n a = some v → VR C a v' → v' = v
  | 0, _, _, _, h, _ => by cases h
  | n + 1, a, v, v', h, hv => by
    cases hv with
    | bool => simp only [conc, Option.some.injEq] at h; exact h
    | int => simp only [conc, Option.some.injEq] at h; exact h
    | str s => simp only [conc, Option.some.injEq] at h; subst h; simp
    | agg l l' hl =>
      simp only [conc] at h
      cases hm : l.mapM (conc n) with
      | none => rw [hm] at h; cases h
      | some r =>
        rw [hm] at h
        simp only [Option.map_some, Option.some.injEq] at h
        subst h
        have : ∀ (l : List AVal) (l' r : List Value), VRs C l l' → l.mapM (conc n) = some r → l' = r := by
          intro l
          induction l with
          | nil => intro l' r hl hm; cases hl; simp at hm; exact hm.symm
          | cons a l ih =>
            intro l' r hl hm
            cases hl with
            | cons _ u _ l' ha ht =>
              obtain ⟨b, r', h1, h2, rfl⟩ := mapM_cons_some hm
              rw [conc_VR n h1 ha, ih _ _ ht h2]
        have e := this l l'.toList r hl hm
        rw [← e]
    | _ => simp [conc] at h

inductive ABlk where
  | cells (t : TypeId) (row : Bool) (l : List AVal)
  | map (es : List (AVal × AVal × Nat)) (clock : Nat)
  | iter (s : List UInt8) (pos : Nat)
structure AHeap where
  next : Nat
  m : PT ABlk
def AHeap.get (H : AHeap) (b : Nat) : Option ABlk := H.m.get b
def AHeap.put (H : AHeap) (b : Nat) (x : ABlk) : AHeap := { H with m := H.m.set b (some x) }
def AHeap.kill (H : AHeap) (b : Nat) : AHeap := { H with m := H.m.set b none }
def AHeap.new (H : AHeap) (x : ABlk) : AHeap := ⟨H.next + 1, H.m.set H.next (some x)⟩
def AHeap.empty : AHeap := ⟨0, .lf⟩
section
variable (H : AHeap) (b : Nat) (x : ABlk) (j : Nat)
theorem AHeap.get_put : (H.put b x).get j = if j = b then some x else H.get j := PT.get_set _ _ _ _
theorem AHeap.get_kill : (H.kill b).get j = if j = b then none else H.get j := PT.get_set _ _ _ _
theorem AHeap.get_new : (H.new x).get j = if j = H.next then some x else H.get j := PT.get_set _ _ _ _
end

/-- An entry of a map. -/
structure ER (C : Ctx) (x : AVal × AVal × Nat) (e : MapEntry) : Prop where
  key : VR C x.1 e.key
  val : VR C x.2.1 e.val
  born : x.2.2 = e.born
inductive ERs (C : Ctx) : List (AVal × AVal × Nat) → List MapEntry → Prop
  | nil : ERs C [] []
  | cons (x : AVal × AVal × Nat) (e : MapEntry) (l : List (AVal × AVal × Nat)) (l' : List MapEntry) (h : ER C x e) (t : ERs C l l') : ERs C (x :: l) (e :: l')
theorem ERs.mono {C D : Ctx} (hc : C.Le D) {l : List (AVal × AVal × Nat)} {l' : List MapEntry} (h : ERs C l l') : ERs D l l' := by
  induction h with
  | nil => exact .nil
  | cons x e l l' h t ih => exact .cons _ _ _ _ ⟨h.key.mono hc, h.val.mono hc, h.born⟩ ih

/-- A block stands for one of the model's. -/
def BR (P : Program) (C : Ctx) (rc : Nat) : ABlk → Obj → Prop
  | .cells t row l, o => ∃ c, o = .cells c t (0, 0) ∧ VRs C l (c.toList.take l.length) ∧ (row = true → rc ≤ maxLen ∧ ∃ inf, P.info? t = some inf ∧ c.size = rc * inf.size)
  | .map es clock, o => ∃ es', o = .map es' clock ∧ ERs C es es'.toList
  | .iter s pos, o => ∃ s' : ByteArray, o = .stringIter s' pos ∧ s'.data.toList = s

/-- The abstract memory stands for the model's. q: blocks that are known, and not yet made. -/
structure R (P : Program) (q : Nat → Bool) (C : Ctx) (H : AHeap) (W : World) : Prop where
  os : W.os = C.os
  tape : W.tape = C.tape
  output : W.output = C.output
  imm : ∀ k o, C.imm k = some o → W.heap[k]? = some o
  blk : ∀ b x, H.get b = some x → ∀ k rc, C.φ b = some (k, rc) → C.imm k = none ∧ ∃ o, W.heap[k]? = some o ∧ BR P C rc x o
  inj : ∀ b b', H.get b ≠ none → H.get b' ≠ none → ∀ k rc rc', C.φ b = some (k, rc) → C.φ b' = some (k, rc') → b = b'
  next : ∀ b, C.φ b ≠ none → b < H.next
  res : ∀ b, q b = true → C.φ b = none ∧ b < H.next
end Ab
end Go.Proofs.YthhnhbpmpdminaaGreatDoor
