/-
The same run, laid so that the kernel has less to do: each operation made ready once. Conditions: none.
-/
import Derived.Test.YthhnhbpmpdminaaGreatDoorXB
namespace Go.Proofs.YthhnhbpmpdminaaGreatDoor
namespace Ab
set_option maxRecDepth 4096

abbrev CallF := FuncId → List AVal → AHeap → Option (AVal × AHeap)
abbrev StepR := Option (AVal × Ds × AHeap)
abbrev CodeR := Option (AExit × PT AVal × Ds × AHeap)
/-- An operation that is ready. -/
inductive RunO where
  | mk (run : CallF → (Operand → AVal) → Ds → AHeap → StepR)
def RunO.go : RunO → CallF → (Operand → AVal) → Ds → AHeap → StepR
  | .mk run, call, ev, ds, H => run call ev ds H
def stVal (v : Option AVal) (ds : Ds) (H : AHeap) : StepR :=
  match v with
  | some v => some (v, ds, H)
  | none => none
def stHV (v : Option (AVal × AHeap)) (ds : Ds) : StepR :=
  match v with
  | some (v, H') => some (v, ds, H')
  | none => none
def stH (v : Option AHeap) (ds : Ds) : StepR :=
  match v with
  | some H' => some (.tup [], ds, H')
  | none => none

/- Numbers. -/
def wrapB (B : Nat) (k : IntKind) (n : Int) : Int :=
  match k with
  | .i64 => match n with
    | .ofNat m => bif Nat.blt m B then .ofNat m else IntKind.i64.wrap (.ofNat m)
    | .negSucc m => bif Nat.blt m B then .negSucc m else IntKind.i64.wrap (.negSucc m)
  | k => k.wrap n
theorem wrapB_eq (B : Nat) (hB : B ≤ 9223372036854775808) (k : IntKind) (n : Int) : wrapB B k n = k.wrap n := by
  cases k with
  | i64 =>
    cases n with
    | ofNat m =>
      show (bif Nat.blt m B then _ else _) = _
      cases h : Nat.blt m B with
      | false => exact cond_false _ _
      | true =>
        have := Nat.blt_eq.mp h
        exact (cond_true _ _).trans (IntWalk.i64_in (Int.ofNat m) (by simp only [Int.ofNat_eq_natCast]; omega)).symm
    | negSucc m =>
      show (bif Nat.blt m B then _ else _) = _
      cases h : Nat.blt m B with
      | false => exact cond_false _ _
      | true =>
        have := Nat.blt_eq.mp h
        exact (cond_true _ _).trans (IntWalk.i64_in (Int.negSucc m) (by omega)).symm
  | _ => rfl
def wrapF (k : IntKind) (n : Int) : Int := wrapB 9223372036854775808 k n
theorem wrapF_eq (k : IntKind) (n : Int) : wrapF k n = k.wrap n := wrapB_eq _ (Nat.le_refl _) k n
def leI (a b : Int) : Bool :=
  match a, b with
  | .ofNat m, .ofNat n => Nat.ble m n
  | .negSucc _, .ofNat _ => true
  | .ofNat _, .negSucc _ => false
  | .negSucc m, .negSucc n => Nat.ble n m
theorem leI_eq (a b : Int) : leI a b = decide (a ≤ b) := by
  cases a <;> cases b <;> simp only [leI] <;> symm
  · rename_i m n
    cases h : Nat.ble m n with
    | true => have := Nat.le_of_ble_eq_true h; simp; omega
    | false =>
      have : ¬ m ≤ n := fun q => by rw [Nat.ble_eq_true_of_le q] at h; cases h
      simp; omega
  · simp; omega
  · simp; omega
  · rename_i m n
    cases h : Nat.ble n m with
    | true => have := Nat.le_of_ble_eq_true h; simp; omega
    | false =>
      have : ¬ n ≤ m := fun q => by rw [Nat.ble_eq_true_of_le q] at h; cases h
      simp; omega
def eqI (a b : Int) : Bool :=
  match a, b with
  | .ofNat m, .ofNat n => Nat.beq m n
  | .negSucc m, .negSucc n => Nat.beq m n
  | _, _ => false
theorem eqI_eq (a b : Int) : eqI a b = (a == b) := by
  have nb : ∀ m n : Nat, Nat.beq m n = decide (m = n) := fun m n => by
    cases h : Nat.beq m n with
    | true => have := Nat.eq_of_beq_eq_true h; simp [this]
    | false =>
      have : ¬ m = n := fun e => by subst e; rw [Nat.beq_refl] at h; cases h
      simp [this]
  cases a <;> cases b <;> simp only [eqI, nb] <;> symm
  · rename_i m n
    by_cases e : m = n
    · simp [e]
    · first | (simp [e]; done) | (simp [e]; omega)
  · simp
  · simp
  · rename_i m n
    by_cases e : m = n
    · simp [e]
    · first | (simp [e]; done) | (simp [e]; omega)
def sameK : IntKind → IntKind → Bool
  | .i64, .i64 => true
  | a, b => decide (a = b)
theorem sameK_eq (a b : IntKind) : sameK a b = decide (a = b) := by cases a <;> cases b <;> rfl
/-- Of two numbers of one kind. -/
def numF (op : BinOp) (k : IntKind) (a b : Int) : Option AVal :=
  match op with
  | .add => some (.int k (wrapF k (a + b)))
  | .sub => some (.int k (wrapF k (a - b)))
  | .eql => some (.bool (eqI a b))
  | .neq => some (.bool (!(eqI a b)))
  | .lss => some (.bool (!(leI b a)))
  | .leq => some (.bool (leI a b))
  | .gtr => some (.bool (!(leI a b)))
  | .geq => some (.bool (leI b a))
  | _ => none
def plainOp : BinOp → Bool
  | .add | .sub | .eql | .neq | .lss | .leq | .gtr | .geq => true
  | _ => false
def binF (P : Program) (op : BinOp) (t : TypeId) (ox oy : Operand) (x y : AVal) : Option AVal :=
  match x with
  | .int k a => match y with
    | .int k' b => bif sameK k k' then numF op k a b else abinop P op t ox oy (.int k a) (.int k' b)
    | y => abinop P op t ox oy (.int k a) y
  | x => abinop P op t ox oy x y
theorem numF_eq (P : Program) {op : BinOp} (hp : plainOp op = true) (t : TypeId) (ox oy : Operand) (k : IntKind) (a b : Int) : numF op k a b = abinop P op t ox oy (.int k a) (.int k b) := by
  have hk : ∀ {α : Type} (x y : α), (if k ≠ k then x else y) = y := fun x y => if_neg (by simp)
  unfold numF abinop
  cases op <;> first | (cases hp; done) | skip
  all_goals simp only [binOp, hk, Op.intArith, Op.intCmp, absV, wrapF_eq, eqI_eq, leI_eq]
  all_goals (first | rfl | skip)
  all_goals (congr 2)
  all_goals (rw [← decide_not]; apply decide_eq_decide.2; omega)
theorem binF_eq (P : Program) {op : BinOp} (hp : plainOp op = true) (t : TypeId) (ox oy : Operand) (x y : AVal) : binF P op t ox oy x y = abinop P op t ox oy x y := by
  unfold binF
  split
  · rename_i k a
    split
    · rename_i k' b
      cases h : sameK k k' with
      | false => rfl
      | true =>
        rw [sameK_eq] at h
        have := of_decide_eq_true h
        subst this
        exact numF_eq P hp t ox oy k a b
    · rfl
  · rfl

/- Places. -/
def offOf (P : Program) (s : TypeId) (f : Nat) : Option Nat :=
  match tiOf P s with
  | some i => match i.desc with
    | .struct fs => match fs[f]? with
      | some fd => match tiOf P fd.type with
        | some fi => bif Nat.beq fi.size 0 then none else some fd.offset
        | none => none
      | none => none
    | _ => none
  | none => none
def addOff (off : Nat) (x : AVal) : Option AVal :=
  match x with
  | .ptr (some (b, o)) => some (.ptr (some (b, o + off)))
  | .rp c => some (.rp (c.drop off))
  | _ => none
theorem offOf_eq (P : Program) (s : TypeId) (f : Nat) (x : AVal) : (match offOf P s f with | some off => addOff off x | none => none) = afieldAddr P s x f := by
  unfold offOf afieldAddr
  cases tiOf P s with
  | none => rfl
  | some i =>
    simp only []
    cases i.desc <;> try rfl
    rename_i fs
    simp only []
    cases fs[f]? with
    | none => rfl
    | some fd =>
      simp only []
      cases tiOf P fd.type with
      | none => rfl
      | some fi =>
        simp only []
        cases Nat.beq fi.size 0
        · rfl
        · rfl
/-- A part: is it of many cells, where, how many. -/
def partOf (P : Program) (s : TypeId) (f : Nat) : Option (Bool × Nat × Nat) :=
  match tiOf P s with
  | some i => match i.desc with
    | .struct fs => match fs[f]? with
      | some fd => match tiOf P fd.type with
        | some fi => some (isAggD fi.desc, fd.offset, fi.size)
        | none => none
      | none => none
    | _ => none
  | none => none
def getPart (p : Bool × Nat × Nat) (x : AVal) : Option AVal :=
  match x with
  | .agg l => bif p.1 then some (.agg ((l.drop p.2.1).take p.2.2)) else l[p.2.1]?
  | _ => none
theorem partOf_eq (P : Program) (s : TypeId) (f : Nat) (x : AVal) : (match partOf P s f with | some p => getPart p x | none => none) = afield P s x f := by
  unfold partOf afield
  cases tiOf P s with
  | none => rfl
  | some i =>
    simp only []
    cases i.desc <;> try (cases x <;> rfl)
    rename_i fs
    simp only []
    cases hf : fs[f]? with
    | none => cases x <;> simp [hf]
    | some fd =>
      simp only []
      cases ht : tiOf P fd.type with
      | none => cases x <;> simp [apart, ht, hf]
      | some fi => cases x <;> simp [apart, ht, hf, getPart]
inductive IxK where
  | arr (len size : Nat)
  | sl (size : Nat)
  | no
def ixOf (P : Program) (t : TypeId) : IxK :=
  match tiOf P t with
  | some i => match i.desc with
    | .array len e => match tiOf P e with
      | some ie => .arr len ie.size
      | none => .no
    | .slice e => match tiOf P e with
      | some ie => .sl ie.size
      | none => .no
    | _ => .no
  | none => .no
def ixGo (k : IxK) (x ix : AVal) : Option AVal :=
  match ix with
  | .int _ (.ofNat n) => match k with
    | .arr len size => match x with
      | .ptr (some (b, o)) => bif Nat.blt n len then some (.ptr (some (b, o + n * size))) else none
      | .rp c => bif Nat.blt n len then some (.rp (c.drop (n * size))) else none
      | _ => none
    | .sl size => match x with
      | .sl (some (b, o)) len _ _ => bif Nat.blt n len then some (.ptr (some (b, o + n * size))) else none
      | .ro len c => bif Nat.blt n len then some (.rp (c.drop (n * size))) else none
      | _ => none
    | .no => none
  | _ => none
theorem ixGo_eq (P : Program) (t : TypeId) (x ix : AVal) : ixGo (ixOf P t) x ix = aindexAddr P t x ix := by
  unfold ixGo ixOf aindexAddr
  cases tiOf P t with
  | none => cases ix <;> simp; split <;> rfl
  | some i =>
    obtain ⟨_, _, d, _⟩ := i
    cases ix with
    | int k n => cases n with
      | ofNat n =>
        simp only []
        cases d with
        | array len e =>
          simp only []
          cases ht : tiOf P e with
          | none => cases x with
            | ptr a => cases a <;> simp [ht]
            | rp c => simp [ht]
            | _ => rfl
          | some ie => cases x with
            | ptr a => cases a <;> simp [ht]
            | rp c => simp [ht]
            | _ => rfl
        | slice e =>
          simp only []
          cases ht : tiOf P e with
          | none => cases x with
            | sl a _ _ _ => cases a <;> simp [ht]
            | ro n c => simp [ht]
            | _ => rfl
          | some ie => cases x with
            | sl a _ _ _ => cases a <;> simp [ht]
            | ro n c => simp [ht]
            | _ => rfl
        | _ => rfl
      | negSucc n => rfl
    | _ => rfl

/- Loads. -/
def ldOf (P : Program) (t : TypeId) : Option (Bool × Nat) :=
  match tiOf P t with
  | some i => some (isAggD i.desc, i.size)
  | none => none
def takeX : Nat → List AVal → Option (List AVal)
  | 0, _ => some []
  | _ + 1, [] => none
  | n + 1, a :: l => match takeX n l with
    | some r => some (a :: r)
    | none => none
theorem takeX_eq : ∀ (n : Nat) (l : List AVal), takeX n l = bif Nat.ble n l.length then some (l.take n) else none
  | 0, l => by simp [takeX, Nat.ble]
  | n + 1, [] => by simp [takeX, Nat.ble]
  | n + 1, a :: l => by
    rw [takeX, takeX_eq n l]
    show _ = bif Nat.ble (n + 1) (l.length + 1) then _ else _
    rw [show Nat.ble (n + 1) (l.length + 1) = Nat.ble n l.length from rfl]
    cases Nat.ble n l.length <;> rfl
def ld1 (H : AHeap) (a : AVal) : Option AVal :=
  match a with
  | .ptr (some (b, o)) => match H.get b with
    | some (.cells _ _ l) => l[o]?
    | _ => none
  | .rp l => match l with
    | v :: _ => some v
    | [] => none
  | _ => none
def ldN (H : AHeap) (n : Nat) (a : AVal) : Option AVal :=
  match a with
  | .ptr (some (b, o)) => match H.get b with
    | some (.cells _ _ l) => match takeX n (l.drop o) with
      | some r => some (.agg r)
      | none => none
    | _ => none
  | .rp l => match takeX n l with
    | some r => some (.agg r)
    | none => none
  | _ => none
theorem ble_drop (n o : Nat) (l : List AVal) (h0 : 0 < n) : Nat.ble n (l.drop o).length = Nat.ble (o + n) l.length := by
  rw [List.length_drop]
  cases h : Nat.ble (o + n) l.length with
  | true => have := Nat.le_of_ble_eq_true h; exact Nat.ble_eq_true_of_le (by omega)
  | false =>
    cases h2 : Nat.ble n (l.length - o) with
    | false => rfl
    | true =>
      have := Nat.le_of_ble_eq_true h2
      have h3 : o + n ≤ l.length := by omega
      rw [Nat.ble_eq_true_of_le h3] at h; cases h
theorem one_of (H : AHeap) (a : AVal) : ld1 H a = (match ldCells H a 1 with | some [v] => some v | _ => none) := by
  cases a with
  | ptr p => cases p with
    | none => rfl
    | some q =>
      obtain ⟨b, o⟩ := q
      unfold ld1 ldCells
      simp only []
      cases H.get b with
      | none => rfl
      | some x => cases x with
        | cells t r l =>
          simp only []
          cases h : Nat.ble (o + 1) l.length with
          | true =>
            have := Nat.le_of_ble_eq_true h
            simp only [cond_true]
            rw [List.getElem?_eq_getElem (by omega), List.drop_eq_getElem_cons (by omega)]
            rfl
          | false =>
            have : ¬ o + 1 ≤ l.length := fun q => by rw [Nat.ble_eq_true_of_le q] at h; cases h
            simp only [cond_false]
            rw [List.getElem?_eq_none (by omega)]
        | map _ _ => rfl
        | iter _ _ => rfl
  | rp l => cases l with
    | nil => rfl
    | cons v l => simp [ld1, ldCells, Nat.ble]
  | _ => rfl
theorem many_of (H : AHeap) (n : Nat) (a : AVal) (h0 : 0 < n) : ldN H n a = (match ldCells H a n with | some l => some (.agg l) | none => none) := by
  cases a with
  | ptr p => cases p with
    | none => rfl
    | some q =>
      obtain ⟨b, o⟩ := q
      unfold ldN ldCells
      simp only []
      cases H.get b with
      | none => rfl
      | some x => cases x with
        | cells t r l =>
          simp only [takeX_eq, ble_drop n o l h0]
        | map _ _ => rfl
        | iter _ _ => rfl
  | rp l =>
    simp only [ldN, ldCells, takeX_eq]
  | _ => rfl
end Ab
end Go.Proofs.YthhnhbpmpdminaaGreatDoor
