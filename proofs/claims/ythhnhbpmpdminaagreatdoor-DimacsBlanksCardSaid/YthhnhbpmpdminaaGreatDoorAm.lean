/-
The run that is made ready, and that it is the run. Conditions: none.
-/
import Derived.Test.YthhnhbpmpdminaaGreatDoorAl
namespace Go.Proofs.YthhnhbpmpdminaaGreatDoor
namespace Ab
set_option maxRecDepth 4096

def pickK (c a b : AVal) (ds : Ds) (H : AHeap) : StepR :=
  match c with
  | .bool t => some (bif t then a else b, ds, H)
  | _ => none
def nilK (x : AVal) (ds : Ds) (H : AHeap) : StepR :=
  match x with
  | .ptr (some a) => some (.ptr (some a), ds, H)
  | .rp l => some (.rp l, ds, H)
  | .fn f a b => some (.fn f a b, ds, H)
  | .iface t v => some (.iface t v, ds, H)
  | _ => none
def extK (x : AVal) (i : Nat) (ds : Ds) (H : AHeap) : StepR :=
  match x with
  | .tup l => stVal l[i]? ds H
  | _ => none
def callK (call : CallF) (fv : AVal) (args : List AVal) (ds : Ds) (H : AHeap) : StepR :=
  match fv with
  | .fn g first cap => stHV (call g ((first ++ args) ++ cap) H) ds
  | _ => none
def lenK (k : Cls) (P : Program) (t : TypeId) (x : AVal) (ds : Ds) (H : AHeap) : StepR :=
  match k with
  | .L => stVal (alen P H t x) ds H
  | _ => stVal (alenP P t x) ds H
/-- An operation, made ready. -/
def cOp (S : St) (o : Oper) : RunO :=
  match o.op with
  | .move x => .mk fun _ ev ds H => some (ev x, ds, H)
  | .assign x => .mk fun _ ev ds H => some (ev x, ds, H)
  | .pick c a b => .mk fun _ ev ds H => pickK (ev c) (ev a) (ev b) ds H
  | .nilCheck x => .mk fun _ ev ds H => nilK (ev x) ds H
  | .extract x i => .mk fun _ ev ds H => extK (ev x) i ds H
  | .binOp op t x y _ => match plainOp op with
    | true => .mk fun _ ev ds H => stVal (binF S.P op t x y (ev x) (ev y)) ds H
    | false => .mk fun _ ev ds H => stVal (abinop S.P op t x y (ev x) (ev y)) ds H
  | .fieldAddr s x f => match offOf S.P s f with
    | some off => .mk fun _ ev ds H => stVal (addOff off (ev x)) ds H
    | none => .mk fun _ _ _ _ => none
  | .field s x f => match partOf S.P s f with
    | some p => .mk fun _ ev ds H => stVal (getPart p (ev x)) ds H
    | none => .mk fun _ _ _ _ => none
  | .indexAddr t x i => match ixOf S.P t with
    | k => .mk fun _ ev ds H => stVal (ixGo k (ev x) (ev i)) ds H
  | .index t x i => .mk fun _ ev ds H => stVal (aindex S.P t (ev x) (ev i)) ds H
  | .slice t x lo hi mx => .mk fun _ ev ds H => stVal (aslice S.P t (ev x) (lo.map ev) (hi.map ev) (mx.map ev)) ds H
  | .build t parts => .mk fun _ ev ds H => stVal (abuild S.P t (parts.toList.map fun p => (p.1, ev p.2))) ds H
  | .load t a => match ldOf S.P t with
    | some (true, n) => match n with
      | 0 => .mk fun _ ev ds H => stVal (aload S.P H t (ev a)) ds H
      | n + 1 => .mk fun _ ev ds H => stVal (ldN H (n + 1) (ev a)) ds H
    | some (false, _) => .mk fun _ ev ds H => stVal (ld1 H (ev a)) ds H
    | none => .mk fun _ _ _ _ => none
  | .lookup t x i ok => .mk fun _ ev ds H => stVal (alookup S.P H t (ev x) (ev i) ok) ds H
  | .store t a x => .mk fun _ ev ds H => stH (astore S.P H t (ev a) (ev x)) ds
  | .mapUpdate t m k x => .mk fun _ ev ds H => stH (amapUpdate S.P H t (ev m) (ev k) (ev x)) ds
  | .insert t m k x => .mk fun _ ev ds H => stH (amapUpdate S.P H t (ev m) (ev k) (ev x)) ds
  | .call c => match c.callee with
    | .value f => .mk fun call ev ds H => callK call (ev f) (c.args.toList.map ev) ds H
    | .builtin .append => match c.args.toList, c.argTypes.toList with
      | [s, x], [t, u] => .mk fun _ ev ds H => stHV (aappend S.P H t u (ev s) (ev x)) ds
      | _, _ => .mk fun _ _ _ _ => none
    | .builtin .len => match c.args.toList, c.argTypes.toList with
      | [x], [t] => match clsOf S.P o.op with
        | k => .mk fun _ ev ds H => lenK k S.P t (ev x) ds H
      | _, _ => .mk fun _ _ _ _ => none
    | _ => .mk fun call ev ds H => stepA S call ev ds H o
  | _ => .mk fun call ev ds H => stepA S call ev ds H o
theorem stVal_eq (v : Option AVal) (ds : Ds) (H : AHeap) : stVal v ds H = (match v with | some v => some (v, ds, H) | none => none) := rfl
theorem cOp_eq (S : St) (o : Oper) (call : CallF) (ev : Operand → AVal) (ds : Ds) (H : AHeap) : (cOp S o).go call ev ds H = stepA S call ev ds H o := by
  obtain ⟨dst, op, type, pos, after, guard⟩ := o
  cases op with
  | move x => rfl
  | assign x => rfl
  | pick c a b =>
    show pickK _ _ _ _ _ = (match popP S.P ev ⟨dst, .pick c a b, type, pos, after, guard⟩ with | some v => some (v, ds, H) | none => none)
    unfold pickK popP
    simp only []
    cases ev c <;> rfl
  | nilCheck x =>
    show nilK _ _ _ = (match popP S.P ev ⟨dst, .nilCheck x, type, pos, after, guard⟩ with | some v => some (v, ds, H) | none => none)
    unfold nilK popP
    simp only []
    cases ev x with
    | ptr a => cases a <;> rfl
    | _ => rfl
  | extract x i =>
    show extK _ _ _ _ = (match popP S.P ev ⟨dst, .extract x i, type, pos, after, guard⟩ with | some v => some (v, ds, H) | none => none)
    unfold extK popP
    simp only []
    cases ev x <;> rfl
  | binOp op t x y yt =>
    show (RunO.go (match plainOp op with | true => _ | false => _) call ev ds H) = (match popP S.P ev ⟨dst, .binOp op t x y yt, type, pos, after, guard⟩ with | some v => some (v, ds, H) | none => none)
    cases h : plainOp op with
    | true => show stVal (binF S.P op t x y (ev x) (ev y)) ds H = _; rw [binF_eq S.P h]; rfl
    | false => rfl
  | fieldAddr s x f =>
    show (RunO.go (match offOf S.P s f with | some off => _ | none => _) call ev ds H) = stVal (afieldAddr S.P s (ev x) f) ds H
    rw [← offOf_eq]
    cases offOf S.P s f <;> rfl
  | field s x f =>
    show (RunO.go (match partOf S.P s f with | some off => _ | none => _) call ev ds H) = stVal (afield S.P s (ev x) f) ds H
    rw [← partOf_eq]
    cases partOf S.P s f <;> rfl
  | indexAddr t x i =>
    show stVal (ixGo (ixOf S.P t) (ev x) (ev i)) ds H = stVal (aindexAddr S.P t (ev x) (ev i)) ds H
    rw [ixGo_eq]
  | index t x i => rfl
  | slice t x lo hi mx => rfl
  | build t parts => rfl
  | load t a =>
    show (RunO.go (match ldOf S.P t with | some (true, n) => _ | some (false, _) => _ | none => _) call ev ds H) = stVal (aload S.P H t (ev a)) ds H
    unfold ldOf
    cases hi : tiOf S.P t with
    | none => simp [aload, hi, RunO.go, stVal]
    | some i =>
      simp only []
      cases hd : isAggD i.desc with
      | false =>
        show stVal (ld1 H (ev a)) ds H = _
        rw [one_of]; unfold aload; simp only [hi, hd, cond_false]; rfl
      | true =>
        simp only []
        cases hn : i.size with
        | zero => rfl
        | succ n =>
          show stVal (ldN H (n + 1) (ev a)) ds H = _
          rw [many_of _ _ _ (by omega)]; unfold aload; simp only [hi, hd, hn, cond_true]; rfl
  | lookup t x i ok => rfl
  | store t a x =>
    show stH (astore S.P H t (ev a) (ev x)) ds = (match (match astore S.P H t (ev a) (ev x) with | some H' => some (AVal.tup [], H') | none => none) with | some (v, H') => some (v, ds, H') | none => none)
    cases astore S.P H t (ev a) (ev x) <;> rfl
  | mapUpdate t m k x =>
    show stH (amapUpdate S.P H t (ev m) (ev k) (ev x)) ds = (match (match amapUpdate S.P H t (ev m) (ev k) (ev x) with | some H' => some (AVal.tup [], H') | none => none) with | some (v, H') => some (v, ds, H') | none => none)
    cases amapUpdate S.P H t (ev m) (ev k) (ev x) <;> rfl
  | insert t m k x =>
    show stH (amapUpdate S.P H t (ev m) (ev k) (ev x)) ds = (match (match amapUpdate S.P H t (ev m) (ev k) (ev x) with | some H' => some (AVal.tup [], H') | none => none) with | some (v, H') => some (v, ds, H') | none => none)
    cases amapUpdate S.P H t (ev m) (ev k) (ev x) <;> rfl
  | call c =>
    obtain ⟨callee, ⟨args⟩, ⟨ats⟩⟩ := c
    cases callee with
    | value f =>
      show callK call (ev f) (args.map ev) ds H = _
      unfold callK stepA
      simp only [clsOf]
      cases ev f <;> rfl
    | builtin b =>
      cases b with
      | append =>
        match args, ats with
        | [s, x], [t, u] => rfl
        | [], _ => rfl
        | [_], _ => rfl
        | _ :: _ :: _ :: _, _ => rfl
        | [_, _], [] => rfl
        | [_, _], [_] => rfl
        | [_, _], _ :: _ :: _ :: _ => rfl
      | len =>
        match args, ats with
        | [x], [t] =>
          show lenK (clsOf S.P (.call ⟨.builtin .len, ⟨[x]⟩, ⟨[t]⟩⟩)) S.P t (ev x) ds H = _
          unfold stepA
          simp only []
          unfold clsOf
          simp only []
          cases tiOf S.P t with
          | none => rfl
          | some i => obtain ⟨_, _, d, _⟩ := i; cases d <;> rfl
        | [], [] => rfl
        | [], [t] =>
          unfold stepA
          simp only []
          unfold clsOf
          simp only []
          cases tiOf S.P t with
          | none => rfl
          | some i => obtain ⟨_, _, d, _⟩ := i; cases d <;> rfl
        | [], _ :: _ :: _ => rfl
        | _ :: _ :: _, [] => rfl
        | _ :: _ :: _, [t] =>
          unfold stepA
          simp only []
          unfold clsOf
          simp only []
          cases tiOf S.P t with
          | none => rfl
          | some i => obtain ⟨_, _, d, _⟩ := i; cases d <;> rfl
        | _ :: _ :: _, _ :: _ :: _ => rfl
        | [_], [] => rfl
        | [_], _ :: _ :: _ => rfl
      | _ => rfl
    | _ => rfl
  | _ => rfl

/- What an operation reads, and where what it tells is laid. -/
abbrev RowR := Option (PT AVal × Ds × AHeap)
abbrev Cont := PT AVal → Ds → AHeap → RowR
inductive Rd where
  | t (rd : PT AVal → Option AVal)
  | c (v : AVal)
def rdAt (t : Tmp) : Rd :=
  match PT.accOf t with
  | .mk rd _ => .t rd
def optV : Option AVal → AVal
  | some v => v
  | none => .top
def rdGo (r : Rd) (env : PT AVal) : AVal :=
  match r with
  | .t rd => optV (rd env)
  | .c v => v
def namedIn (o : Oper) (t : Tmp) : Bool := o.op.operands.toList.any (fun | .tmp u => Nat.beq u t | _ => false)
def rdOf (S : St) (draw : Bool) (o : Oper) (x : Operand) : Rd :=
  match x with
  | .tmp t => match draw with
    | true => bif namedIn o t then rdAt t else .c .top
    | false => rdAt t
  | .const v => .c (absV 8 v)
  | .global g => .c (S.glob g)
  | .func f => .c (.fn f [] [])
theorem rd_eq (S : St) (draw : Bool) (o : Oper) (x : Operand) (env : PT AVal) : rdGo (rdOf S draw o x) env = evP S draw env o x := by
  have ht : ∀ t, rdGo (rdAt t) env = evO S env (.tmp t) := by
    intro t
    have e : rdGo (rdAt t) env = optV (env.get t) := by
      unfold rdAt PT.get
      cases PT.accOf (α := AVal) t; rfl
    rw [e]
    show optV (env.get t) = (match env.get t with | some v => v | none => .top)
    cases env.get t <;> rfl
  cases x with
  | tmp t => cases draw with
    | false => exact ht t
    | true =>
      show rdGo (bif namedIn o t then rdAt t else .c .top) env = (bif namedIn o t then evO S env (.tmp t) else .top)
      cases namedIn o t
      · rfl
      · exact ht t
  | const v => cases draw <;> rfl
  | global g => cases draw <;> rfl
  | func f => cases draw <;> rfl
inductive PutK where
  | no
  | at (wr : Option AVal → PT AVal → PT AVal)
  | bad
def putAt (d : Tmp) : PutK :=
  match PT.accOf d with
  | .mk _ wr => .at wr
def putOf (nt : Nat) (dst : Option Tmp) : PutK :=
  match dst with
  | none => .no
  | some d => bif Nat.blt d nt then putAt d else .bad
def putC (k : PutK) (env : PT AVal) (v : AVal) (ds : Ds) (H : AHeap) (c : Cont) : RowR :=
  match k with
  | .no => c env ds H
  | .at wr => c (wr (some v) env) ds H
  | .bad => none
theorem putC_eq (nt : Nat) (dst : Option Tmp) (env : PT AVal) (v : AVal) (ds : Ds) (H : AHeap) (c : Cont) : putC (putOf nt dst) env v ds H c = (match aput nt env dst v with
    | some env' => c env' ds H
    | none => none) := by
  unfold putC putOf aput
  cases dst with
  | none => rfl
  | some d =>
    simp only []
    cases Nat.blt d nt
    · rfl
    · simp only [cond_true]
      unfold putAt PT.set
      cases PT.accOf (α := AVal) d; rfl
def genC (r : StepR) (k : PutK) (env : PT AVal) (c : Cont) : RowR :=
  match r with
  | none => none
  | some (v, ds, H) => putC k env v ds H c
def valC (v : Option AVal) (k : PutK) (env : PT AVal) (ds : Ds) (H : AHeap) (c : Cont) : RowR :=
  match v with
  | none => none
  | some v => putC k env v ds H c
theorem valC_eq (v : Option AVal) (k : PutK) (env : PT AVal) (ds : Ds) (H : AHeap) (c : Cont) : valC v k env ds H c = genC (stVal v ds H) k env c := by cases v <;> rfl
def retC (r : Option (AVal × AHeap)) (k : PutK) (env : PT AVal) (ds : Ds) (c : Cont) : RowR :=
  match r with
  | none => none
  | some (v, H) => putC k env v ds H c
def callC (call : CallF) (fv : AVal) (args : List AVal) (k : PutK) (env : PT AVal) (ds : Ds) (H : AHeap) (c : Cont) : RowR :=
  match fv with
  | .fn g first cap => retC (call g ((first ++ args) ++ cap) H) k env ds c
  | _ => none
theorem callC_eq (call : CallF) (fv : AVal) (args : List AVal) (k : PutK) (env : PT AVal) (ds : Ds) (H : AHeap) (c : Cont) : callC call fv args k env ds H c = genC (callK call fv args ds H) k env c := by
  have key : ∀ r : Option (AVal × AHeap), retC r k env ds c = genC (stHV r ds) k env c := by
    intro r
    cases r with
    | none => rfl
    | some x => obtain ⟨v, H'⟩ := x; rfl
  cases fv <;> first | exact key _ | rfl
def extV (x : AVal) (i : Nat) : Option AVal :=
  match x with
  | .tup l => l[i]?
  | _ => none

/- A row of operations. -/
inductive RunP where
  | mk (run : CallF → PT AVal → Ds → AHeap → Cont → RowR)
def RunP.go : RunP → CallF → PT AVal → Ds → AHeap → Cont → RowR
  | .mk run, call, env, ds, H, c => run call env ds H c
def anyR (S : St) (nt : Nat) (draw : Bool) (o : Oper) : RunP :=
  match cOp S o with
  | .mk f => .mk fun call env ds H c => genC (f call (evP S draw env o) ds H) (putOf nt o.dst) env c
def cRun (S : St) (nt : Nat) (draw : Bool) (o : Oper) : RunP :=
  match o.op with
  | .move x => .mk fun _ env ds H c => putC (putOf nt o.dst) env (rdGo (rdOf S draw o x) env) ds H c
  | .assign x => .mk fun _ env ds H c => putC (putOf nt o.dst) env (rdGo (rdOf S draw o x) env) ds H c
  | .extract x i => .mk fun _ env ds H c => valC (extV (rdGo (rdOf S draw o x) env) i) (putOf nt o.dst) env ds H c
  | .binOp op t x y _ => match plainOp op with
    | true => .mk fun _ env ds H c => valC (binF S.P op t x y (rdGo (rdOf S draw o x) env) (rdGo (rdOf S draw o y) env)) (putOf nt o.dst) env ds H c
    | false => anyR S nt draw o
  | .fieldAddr s x f => match offOf S.P s f with
    | some off => .mk fun _ env ds H c => valC (addOff off (rdGo (rdOf S draw o x) env)) (putOf nt o.dst) env ds H c
    | none => .mk fun _ _ _ _ _ => none
  | .field s x f => match partOf S.P s f with
    | some p => .mk fun _ env ds H c => valC (getPart p (rdGo (rdOf S draw o x) env)) (putOf nt o.dst) env ds H c
    | none => .mk fun _ _ _ _ _ => none
  | .indexAddr t x i => .mk fun _ env ds H c => valC (ixGo (ixOf S.P t) (rdGo (rdOf S draw o x) env) (rdGo (rdOf S draw o i) env)) (putOf nt o.dst) env ds H c
  | .load t a => match ldOf S.P t with
    | some (true, n) => match n with
      | 0 => anyR S nt draw o
      | n + 1 => .mk fun _ env ds H c => valC (ldN H (n + 1) (rdGo (rdOf S draw o a) env)) (putOf nt o.dst) env ds H c
    | some (false, _) => .mk fun _ env ds H c => valC (ld1 H (rdGo (rdOf S draw o a) env)) (putOf nt o.dst) env ds H c
    | none => .mk fun _ _ _ _ _ => none
  | .call c => match c.callee with
    | .value f => .mk fun call env ds H k => callC call (rdGo (rdOf S draw o f) env) ((c.args.toList.map (rdOf S draw o)).map fun r => rdGo r env) (putOf nt o.dst) env ds H k
    | _ => anyR S nt draw o
  | _ => anyR S nt draw o
theorem anyR_eq (S : St) (nt : Nat) (draw : Bool) (o : Oper) (call : CallF) (env : PT AVal) (ds : Ds) (H : AHeap) (c : Cont) : (anyR S nt draw o).go call env ds H c = genC (stepA S call (evP S draw env o) ds H o) (putOf nt o.dst) env c := by
  rw [← cOp_eq]
  unfold anyR
  cases cOp S o; rfl
theorem cRun_eq (S : St) (nt : Nat) (draw : Bool) (o : Oper) (call : CallF) (env : PT AVal) (ds : Ds) (H : AHeap) (c : Cont) : (cRun S nt draw o).go call env ds H c = genC (stepA S call (evP S draw env o) ds H o) (putOf nt o.dst) env c := by
  obtain ⟨dst, op, type, pos, after, guard⟩ := o
  have any := anyR_eq S nt draw ⟨dst, op, type, pos, after, guard⟩ call env ds H c
  have e := cOp_eq S ⟨dst, op, type, pos, after, guard⟩ call (evP S draw env ⟨dst, op, type, pos, after, guard⟩) ds H
  cases op with
  | move x =>
    show putC (putOf nt dst) env (rdGo (rdOf S draw _ x) env) ds H c = _
    rw [rd_eq]; rfl
  | assign x =>
    show putC (putOf nt dst) env (rdGo (rdOf S draw _ x) env) ds H c = _
    rw [rd_eq]; rfl
  | extract x i =>
    show valC (extV (rdGo (rdOf S draw _ x) env) i) (putOf nt dst) env ds H c = _
    rw [rd_eq, valC_eq, ← e]
    show _ = genC (extK _ _ _ _) _ _ _
    unfold extV extK
    cases evP S draw env ⟨dst, .extract x i, type, pos, after, guard⟩ x <;> rfl
  | binOp op t x y yt =>
    cases h : plainOp op with
    | true =>
      have e1 : cRun S nt draw ⟨dst, .binOp op t x y yt, type, pos, after, guard⟩ = .mk fun _ env ds H c => valC (binF S.P op t x y (rdGo (rdOf S draw ⟨dst, .binOp op t x y yt, type, pos, after, guard⟩ x) env) (rdGo (rdOf S draw ⟨dst, .binOp op t x y yt, type, pos, after, guard⟩ y) env)) (putOf nt dst) env ds H c := by unfold cRun; simp only [h]
      have e2 : cOp S ⟨dst, .binOp op t x y yt, type, pos, after, guard⟩ = .mk fun _ ev ds H => stVal (binF S.P op t x y (ev x) (ev y)) ds H := by unfold cOp; simp only [h]
      rw [← e, e1, e2]
      show valC _ _ _ _ _ _ = _
      rw [rd_eq, rd_eq, valC_eq]; rfl
    | false =>
      have e1 : cRun S nt draw ⟨dst, .binOp op t x y yt, type, pos, after, guard⟩ = anyR S nt draw ⟨dst, .binOp op t x y yt, type, pos, after, guard⟩ := by unfold cRun; simp only [h]
      rw [e1]; exact any
  | fieldAddr s x f =>
    rw [← e]
    unfold cRun cOp
    simp only []
    cases offOf S.P s f with
    | none => rfl
    | some off =>
      show valC _ _ _ _ _ _ = _
      rw [rd_eq, valC_eq]; rfl
  | field s x f =>
    rw [← e]
    unfold cRun cOp
    simp only []
    cases partOf S.P s f with
    | none => rfl
    | some off =>
      show valC _ _ _ _ _ _ = _
      rw [rd_eq, valC_eq]; rfl
  | indexAddr t x i =>
    rw [← e]
    show valC _ _ _ _ _ _ = _
    rw [rd_eq, rd_eq, valC_eq]; rfl
  | load t a =>
    cases hl : ldOf S.P t with
    | none =>
      rw [← e]
      unfold cRun cOp
      simp only [hl]; rfl
    | some p =>
      obtain ⟨b, n⟩ := p
      cases b with
      | false =>
        rw [← e]
        unfold cRun cOp
        simp only [hl]
        show valC _ _ _ _ _ _ = _
        rw [rd_eq, valC_eq]; rfl
      | true => cases n with
        | zero =>
          have e1 : cRun S nt draw ⟨dst, .load t a, type, pos, after, guard⟩ = anyR S nt draw ⟨dst, .load t a, type, pos, after, guard⟩ := by unfold cRun; simp only [hl]
          rw [e1]; exact any
        | succ n =>
          rw [← e]
          unfold cRun cOp
          simp only [hl]
          show valC _ _ _ _ _ _ = _
          rw [rd_eq, valC_eq]; rfl
  | call cl =>
    obtain ⟨callee, args, ats⟩ := cl
    cases callee with
    | value f =>
      rw [← e]
      show callC call (rdGo (rdOf S draw _ f) env) ((args.toList.map (rdOf S draw _)).map fun r => rdGo r env) (putOf nt dst) env ds H c = _
      rw [rd_eq, callC_eq, List.map_map]
      have : (fun r => rdGo r env) ∘ (rdOf S draw ⟨dst, .call ⟨.value f, args, ats⟩, type, pos, after, guard⟩) = evP S draw env ⟨dst, .call ⟨.value f, args, ats⟩, type, pos, after, guard⟩ := by
        funext x; exact rd_eq _ _ _ _ _
      rw [this]; rfl
    | _ => exact any
  | _ => exact any
def guardC (run : RunP) (k : PutK) (w : Option Bool) (call : CallF) (env : PT AVal) (ds : Ds) (H : AHeap) (c : Cont) : RowR :=
  match w with
  | none => none
  | some false => putC k env (.tup []) ds H c
  | some true => run.go call env ds H c
def cOper (S : St) (nt : Nat) (ops : Array Oper) (draw : Bool) (o : Oper) : RunP :=
  match o.guard with
  | none => cRun S nt draw o
  | some _ => .mk fun call env ds H c => guardC (cRun S nt draw o) (putOf nt o.dst) (wantA ops env o) call env ds H c
noncomputable def runF (S : St) (call : CallF) (nt : Nat) (ops : Array Oper) (draw : Bool) (l : List Oper) : Cont :=
  List.rec (motive := fun _ => Cont) (fun env ds H => some (env, ds, H)) (fun o _ ih env ds H => (cOper S nt ops draw o).go call env ds H ih) l
theorem runF_eq (S : St) (call : CallF) (nt : Nat) (ops : Array Oper) (draw : Bool) : ∀ (l : List Oper) (env : PT AVal) (ds : Ds) (H : AHeap), runF S call nt ops draw l env ds H = runSeq S call nt ops draw l env ds H
  | [], _, _, _ => rfl
  | o :: r, env, ds, H => by
    show (cOper S nt ops draw o).go call env ds H (runF S call nt ops draw r) = _
    have ih : runF S call nt ops draw r = runSeq S call nt ops draw r := by
      funext env ds H; exact runF_eq S call nt ops draw r env ds H
    rw [ih]
    have plain : (cRun S nt draw o).go call env ds H (runSeq S call nt ops draw r) = (match stepA S call (evP S draw env o) ds H o with
        | none => none
        | some (v, ds', H') => match aput nt env o.dst v with
          | some env' => runSeq S call nt ops draw r env' ds' H'
          | none => none) := by
      rw [cRun_eq]
      unfold genC
      cases stepA S call (evP S draw env o) ds H o with
      | none => rfl
      | some x =>
        obtain ⟨v, ds', H'⟩ := x
        simp only []
        rw [putC_eq]
    unfold cOper
    rw [runSeq]
    cases hg : o.guard with
    | none =>
      have hw : wantA ops env o = some true := by unfold wantA; rw [hg]
      rw [hw]
      exact plain
    | some g =>
      show guardC _ _ _ _ _ _ _ _ = _
      unfold guardC
      cases wantA ops env o with
      | none => rfl
      | some b => cases b with
        | false =>
          simp only []
          rw [putC_eq]; rfl
        | true => exact plain

/- A region that draws its order. -/
def loopR (S : St) (ops : Array Oper) (r : Option (List Snap)) (ds : Ds) : Option (PT AVal × Ds × AHeap) :=
  match r with
  | none => none
  | some l => bif stabB S ops l then some ((l.getD ops.size .no).env, ds, (l.getD ops.size .no).heap) else none
noncomputable def runDraw0F (S : St) (call : CallF) (nt : Nat) (ops : Array Oper) (env : PT AVal) (ds : Ds) (H : AHeap) : Option (PT AVal × Ds × AHeap) :=
  bif drawOk S.P ops then
    bif loose S.P ops then loopR S ops (runTr S call nt ops ds ops.toList env H) ds
    else runF S call nt ops true ops.toList env ds H
  else none
noncomputable def runDrawF (S : St) (call : CallF) (nt : Nat) (ops : Array Oper) (env : PT AVal) (ds : Ds) (H : AHeap) : Option (PT AVal × Ds × AHeap) :=
  bif drawOk S.P ops then runDraw0F S call nt ops env ds H
  else match asapGo S.P ops ops.size [] with
    | perm => bif permOk ops perm then runDraw0F S call nt (permOps ops perm) env ds H else none
theorem runDraw0F_eq : runDraw0F = runDraw0 := by
  funext S call nt ops env ds H
  unfold runDraw0F runDraw0 loopR
  rw [runF_eq]
  cases runTr S call nt ops ds ops.toList env H <;> rfl
theorem runDrawF_eq : runDrawF = runDraw := by
  funext S call nt ops env ds H
  unfold runDrawF runDraw
  rw [runDraw0F_eq]

/- Code. -/
structure Fs where
  code : Nat → Code → PT AVal → Ds → AHeap → CodeR
  call : CallF
  defer : Ds → AHeap → Option AHeap
inductive RunC where
  | mk (run : Fs → PT AVal → Ds → AHeap → CodeR)
def normK (r : Option (PT AVal × Ds × AHeap)) : CodeR :=
  match r with
  | some (env, ds, H) => some (.normal, env, ds, H)
  | none => none
def seqK (r : Fs) (nt : Nat) (b : Code) (x : CodeR) : CodeR :=
  match x with
  | some (.normal, env, ds, H) => r.code nt b env ds H
  | some (x, env, ds, H) => some (x, env, ds, H)
  | none => none
def condK (r : Fs) (nt : Nat) (x y : Code) (v : AVal) (env : PT AVal) (ds : Ds) (H : AHeap) : CodeR :=
  match v with
  | .bool true => r.code nt x env ds H
  | .bool false => r.code nt y env ds H
  | _ => none
def blockK (id : Nat) (x : CodeR) : CodeR :=
  match x with
  | some (.exit i, env, ds, H) => bif Nat.beq i id then some (.normal, env, ds, H) else some (.exit i, env, ds, H)
  | some (x, env, ds, H) => some (x, env, ds, H)
  | none => none
def scopeK (x : CodeR) : CodeR :=
  match x with
  | some (.goto _, _, _, _) => none
  | some (x, env, ds, H) => some (x, env, ds, H)
  | none => none
noncomputable def cCode (S : St) (nt : Nat) (c : Code) : RunC :=
  match c with
  | .skip => .mk fun _ env ds H => some (.normal, env, ds, H)
  | .label _ => .mk fun _ env ds H => some (.normal, env, ds, H)
  | .region _ ops draw => match draw with
    | false => .mk fun r env ds H => normK (runF S r.call nt ops false ops.toList env ds H)
    | true => .mk fun r env ds H => normK (runDrawF S r.call nt ops env ds H)
  | .seq a b => .mk fun r env ds H => seqK r nt b (r.code nt a env ds H)
  | .cond c x y => .mk fun r env ds H => condK r nt x y (evO S env c) env ds H
  | .block id b => .mk fun r env ds H => blockK id (r.code nt b env ds H)
  | .loop b => .mk fun r env ds H => seqK r nt (.loop b) (r.code nt b env ds H)
  | .exit id => .mk fun _ env ds H => some (.exit id, env, ds, H)
  | .ret => .mk fun _ env ds H => some (.ret, env, ds, H)
  | .goto l => .mk fun _ env ds H => some (.goto l, env, ds, H)
  | .scope b => .mk fun r env ds H => scopeK (r.code nt b env ds H)
  | _ => .mk fun _ _ _ _ => none
noncomputable def codeF (S : St) (r : Fs) (nt : Nat) (c : Code) (env : PT AVal) (ds : Ds) (H : AHeap) : CodeR :=
  match cCode S nt c with
  | .mk run => run r env ds H
inductive RunF where
  | no
  | ext (g : List AVal → AHeap → Option (AVal × AHeap))
  | body (nt : Nat) (c : Code) (fn : Func)
def cFun (S : St) (f : FuncId) : RunF :=
  match S.ext f with
  | some g => .ext g
  | none => match S.P.funcs[f]? with
    | none => .no
    | some fn => match fn.body with
      | none => .no
      | some c => .body fn.ntmps c fn
def outK (S : St) (fn : Func) (env : PT AVal) (x : Option AHeap) : Option (AVal × AHeap) :=
  match x with
  | some H2 => match ares S.P H2 env fn with
    | some v => some (v, H2)
    | none => none
  | none => none
def retK (S : St) (r : Fs) (fn : Func) (x : CodeR) : Option (AVal × AHeap) :=
  match x with
  | some (.normal, env, ds, H1) => outK S fn env (r.defer ds H1)
  | some (.ret, env, ds, H1) => outK S fn env (r.defer ds H1)
  | _ => none
def callG (S : St) (r : Fs) (f : FuncId) (args : List AVal) (H : AHeap) : Option (AVal × AHeap) :=
  match cFun S f with
  | .no => none
  | .ext g => g args H
  | .body nt c fn => bif Nat.ble args.length nt then retK S r fn (r.code nt c (PT.ofList args 0 .lf) [] H) else none
def deferK (S : St) (r : Fs) (fn : Func) (ds : Ds) (x : CodeR) : Option AHeap :=
  match x with
  | some (.normal, env, [], H1) => match ares S.P H1 env fn with
    | some _ => r.defer ds H1
    | none => none
  | some (.ret, env, [], H1) => match ares S.P H1 env fn with
    | some _ => r.defer ds H1
    | none => none
  | _ => none
def deferG (S : St) (r : Fs) (ds : Ds) (H : AHeap) : Option AHeap :=
  match ds with
  | [] => some H
  | (f, args, cap) :: ds => match S.P.funcs[f]? with
    | none => none
    | some fn => match fn.body with
      | none => none
      | some c => bif Nat.ble (args ++ cap).length fn.ntmps then deferK S r fn ds (r.code fn.ntmps c (PT.ofList (args ++ cap) 0 .lf) [] H) else none
noncomputable def stepFs (S : St) (r : Fs) : Fs := ⟨codeF S r, callG S r, deferG S r⟩
def noFs : Fs := ⟨fun _ _ _ _ _ => none, fun _ _ _ => none, fun ds H => match ds with | [] => some H | _ :: _ => none⟩
noncomputable def fs (S : St) (n : Nat) : Fs := Nat.rec (motive := fun _ => Fs) noFs (fun _ ih => stepFs S ih) n
theorem fs_eq (S : St) : ∀ n, (∀ nt c env ds H, (fs S n).code nt c env ds H = acode S nt n c env ds H) ∧ (fs S n).call = acall S n ∧ (fs S n).defer = adefer S n
  | 0 => ⟨fun _ _ _ _ _ => by unfold acode; rfl, by funext f args H; unfold acall; rfl, by
      funext ds H
      cases ds with
      | nil => unfold adefer; rfl
      | cons d ds => unfold adefer; rfl⟩
  | n + 1 => by
    obtain ⟨i1, i2, i3⟩ := fs_eq S n
    have e : fs S (n + 1) = stepFs S (fs S n) := rfl
    rw [e]
    generalize hr : fs S n = r at i1 i2 i3
    refine ⟨fun nt c env ds H => ?_, ?_, ?_⟩
    · show codeF S r nt c env ds H = _
      unfold codeF cCode
      cases c with
      | skip => simp only [acode]
      | label _ => simp only [acode]
      | region id ops draw =>
        cases draw with
        | false => simp only [acode, runF_eq, i2, normK]; cases runSeq S (acall S n) nt ops false ops.toList env ds H <;> rfl
        | true => simp only [acode, runDrawF_eq, i2, normK]; cases runDraw S (acall S n) nt ops env ds H <;> rfl
      | seq a b =>
        simp only [acode, i1, seqK]
        cases acode S nt n a env ds H with
        | none => rfl
        | some x => obtain ⟨x, env', ds', H'⟩ := x; cases x <;> rfl
      | cond c x y =>
        simp only [acode, i1, condK]
        rfl
      | block id b =>
        simp only [acode, i1, blockK]
        rfl
      | loop b =>
        simp only [acode, i1, seqK]
        cases acode S nt n b env ds H with
        | none => rfl
        | some x => obtain ⟨x, env', ds', H'⟩ := x; cases x <;> rfl
      | exit id => simp only [acode]
      | ret => simp only [acode]
      | goto l => simp only [acode]
      | scope b =>
        simp only [acode, i1, scopeK]
        rfl
      | _ => simp only [acode]
    · funext f args H
      show callG S r f args H = _
      unfold callG cFun acall
      cases S.ext f with
      | some g => rfl
      | none =>
        simp only []
        cases S.P.funcs[f]? with
        | none => rfl
        | some fn =>
          simp only []
          cases fn.body with
          | none => rfl
          | some c =>
            simp only [i1]
            cases Nat.ble args.length fn.ntmps with
            | false => rfl
            | true =>
              simp only [cond_true]
              unfold retK outK
              rw [i3]
              cases acode S fn.ntmps n c (PT.ofList args 0 .lf) [] H with
              | none => rfl
              | some x => obtain ⟨x, env', ds', H'⟩ := x; cases x <;> rfl
    · funext ds H
      show deferG S r ds H = _
      cases ds with
      | nil => unfold adefer; rfl
      | cons d ds =>
        obtain ⟨f, args, cap⟩ := d
        simp only [deferG, adefer]
        cases S.P.funcs[f]? with
        | none => rfl
        | some fn =>
          simp only []
          cases fn.body with
          | none => rfl
          | some c =>
            simp only [i1]
            cases Nat.ble (args ++ cap).length fn.ntmps with
            | false => rfl
            | true =>
              simp only [cond_true]
              unfold deferK
              rw [i3]
              cases acode S fn.ntmps n c (PT.ofList (args ++ cap) 0 .lf) [] H with
              | none => rfl
              | some x =>
                obtain ⟨x, env', ds', H'⟩ := x
                cases ds' <;> cases x <;> rfl
theorem fs_call (S : St) (n : Nat) (f : FuncId) (args : List AVal) (H : AHeap) : (fs S n).call f args H = acall S n f args H := by rw [(fs_eq S n).2.1]
end Ab
end Go.Proofs.YthhnhbpmpdminaaGreatDoor
