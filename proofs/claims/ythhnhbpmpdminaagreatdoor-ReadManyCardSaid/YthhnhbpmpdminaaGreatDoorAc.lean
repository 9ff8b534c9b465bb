/-
Code over the abstract memory, run to its end, and that the model's comes to what stands for it. Conditions: the table of given functions is sound.
-/
import Derived.Test.YthhnhbpmpdminaaGreatDoorAw
import Derived.Defers
import Derived.Scope
import Derived.Deep.LoopGhost
namespace Go.Proofs.YthhnhbpmpdminaaGreatDoor
namespace Ab
set_option maxRecDepth 4096

abbrev Ds := List (FuncId × List AVal × List AVal)
structure St where
  P : Program
  ext : Nat → Option (List AVal → AHeap → Option (AVal × AHeap))
  glob : Nat → AVal
def evO (S : St) (env : PT AVal) : Operand → AVal
  | .tmp t => match env.get t with
    | some v => v
    | none => .top
  | .const v => absV 8 v
  | .global g => S.glob g
  | .func f => .fn f [] []
def aput (nt : Nat) (env : PT AVal) (dst : Option Tmp) (v : AVal) : Option (PT AVal) :=
  match dst with
  | none => some env
  | some d => bif Nat.blt d nt then some (env.set d (some v)) else none
/-- Is an operation carried out? -/
def wantA (ops : Array Oper) (env : PT AVal) (o : Oper) : Option Bool :=
  match o.guard with
  | none => some true
  | some (j, want) => match ops[j]? with
    | none => some false
    | some p => match p.dst with
      | none => some false
      | some d => match env.get d with
        | some (.bool b) => some (b == want)
        | some (.tup []) => some false
        | _ => none
inductive AExit where
  | normal
  | exit (id : Nat)
  | ret
  | goto (l : Nat)
def AExit.toExit : AExit → Exit
  | .normal => .normal
  | .exit id => .exit id
  | .ret => .ret
  | .goto l => .goto l

/-- A result. -/
def ares1 (P : Program) (H : AHeap) (env : PT AVal) : ResultVar → Option AVal
  | .tmp t => match env.get t with
    | some v => some v
    | none => some .top
  | .cell a t => match env.get a with
    | some v => aload P H t v
    | none => none
def ares (P : Program) (H : AHeap) (env : PT AVal) (fn : Func) : Option AVal :=
  match fn.results.toList.mapM (ares1 P H env) with
  | none => none
  | some [v] => some v
  | some l => some (.tup l)

/-- One operation. -/
def stepA (S : St) (call : FuncId → List AVal → AHeap → Option (AVal × AHeap)) (ev : Operand → AVal) (ds : Ds) (H : AHeap) (o : Oper) : Option (AVal × Ds × AHeap) :=
  match clsOf S.P o.op with
  | .P => match popP S.P ev o with
    | some v => some (v, ds, H)
    | none => none
  | .L => match lop S.P H ev o with
    | some v => some (v, ds, H)
    | none => none
  | .A => match amk S.P ev o with
    | some (x, f) => some (f H.next, ds, H.new x)
    | none => none
  | .E => match o.op with
    | .call c => match c.callee with
      | .value f => match ev f with
        | .fn g first cap => match call g ((first ++ c.args.toList.map ev) ++ cap) H with
          | some (v, H') => some (v, ds, H')
          | none => none
        | _ => none
      | _ => match eop S.P H ev o with
        | some (v, H') => some (v, ds, H')
        | none => none
    | .defer c => match c.callee with
      | .value f => match ev f with
        | .fn g first cap => some (.tup [], (g, first ++ c.args.toList.map ev, cap) :: ds, H)
        | _ => none
      | _ => none
    | _ => match eop S.P H ev o with
      | some (v, H') => some (v, ds, H')
      | none => none
/-- In a region that draws its order: what an operation does not name it does not see. -/
def evN (S : St) (env : PT AVal) (o : Oper) : Operand → AVal
  | .tmp t => bif o.op.operands.toList.any (fun | .tmp u => Nat.beq u t | _ => false) then evO S env (.tmp t) else .top
  | x => evO S env x
def evP (S : St) (draw : Bool) (env : PT AVal) (o : Oper) : Operand → AVal :=
  match draw with
  | true => evN S env o
  | false => evO S env
def runSeq (S : St) (call : FuncId → List AVal → AHeap → Option (AVal × AHeap)) (nt : Nat) (ops : Array Oper) (draw : Bool) : List Oper → PT AVal → Ds → AHeap → Option (PT AVal × Ds × AHeap)
  | [], env, ds, H => some (env, ds, H)
  | o :: r, env, ds, H => match wantA ops env o with
    | none => none
    | some false => match aput nt env o.dst (.tup []) with
      | some env' => runSeq S call nt ops draw r env' ds H
      | none => none
    | some true => match stepA S call (evP S draw env o) ds H o with
      | none => none
      | some (v, ds', H') => match aput nt env o.dst v with
        | some env' => runSeq S call nt ops draw r env' ds' H'
        | none => none

/- A region that draws its order. -/
def effA (P : Program) (o : Oper) : Bool :=
  match clsOf P o.op with
  | .E => true
  | _ => false
def readA (P : Program) (o : Oper) : Bool :=
  match clsOf P o.op with
  | .L => true
  | _ => false
def makeA (P : Program) (o : Oper) : Bool :=
  match clsOf P o.op with
  | .A => true
  | _ => false
def defA (o : Oper) : Bool :=
  match o.op with
  | .defer _ => true
  | _ => false
/-- The temporaries that an operation names. -/
def namesA (ops : Array Oper) (o : Oper) : List Tmp :=
  o.dst.toList ++ o.looksAt ops
def clash (P : Program) (ops : Array Oper) (x y : Oper) : Bool :=
  (match x.dst with
   | some d => (namesA ops y).contains d
   | none => false) ||
  (match y.dst with
   | some d => (namesA ops x).contains d
   | none => false) ||
  (effA P x && effA P y)
/-- Of any two operations that may not change places, one waits for the other. -/
def drawOk (P : Program) (ops : Array Oper) : Bool :=
  (List.range ops.size).all fun j => match ops[j]? with
    | none => true
    | some y => !defA y && (y.after.toList.all fun e => !Region.binds .any e || Nat.blt e.on j) && (List.range j).all fun i => match ops[i]? with
      | none => true
      | some x => !(clash P ops x y || (effA P x && makeA P y)) || ((Region.before ops).getD j 0).testBit i
/-- One read, one effect, in either order. -/
def loose (P : Program) (ops : Array Oper) : Bool :=
  (List.range ops.size).any fun j => match ops[j]? with
    | none => false
    | some y => (List.range j).any fun i => match ops[i]? with
      | none => false
      | some x => (((readA P x && effA P y) || (effA P x && readA P y) || (makeA P x && effA P y) || (makeA P x && readA P y)) && !((Region.before ops).getD j 0).testBit i) || (readA P x && makeA P y)
/-- Are two values one? -/
def beqV : Nat → AVal → AVal → Bool
  | 0, _, _ => false
  | n + 1, x, y => match x, y with
    | .top, .top => true
    | .em, .em => true
    | .bool a, .bool b => a == b
    | .int k a, .int j b => k == j && a == b
    | .str a, .str b => a == b
    | .ptr a, .ptr b => a == b
    | .rp a, .rp b => beqL (beqV n) a b
    | .sl a l c o, .sl b m d p => a == b && l == m && c == d && o == p
    | .ro l a, .ro m b => l == m && beqL (beqV n) a b
    | .map a, .map b => a == b
    | .fn f a b, .fn g c d => f == g && beqL (beqV n) a c && beqL (beqV n) b d
    | .nilfn, .nilfn => true
    | .iface t a, .iface u b => t == u && beqV n a b
    | .nilif, .nilif => true
    | .agg a, .agg b => beqL (beqV n) a b
    | .tup a, .tup b => beqL (beqV n) a b
    | .lin k a b l h, .lin j c d m g => k == j && a == c && b == d && l == m && h == g
    | .unk i, .unk j => i == j
    | _, _ => false
where beqL (f : AVal → AVal → Bool) : List AVal → List AVal → Bool
  | [], [] => true
  | a :: l, b :: m => f a b && beqL f l m
  | _, _ => false
def beqO (x : Option AVal) (y : AVal) : Bool :=
  match x with
  | some a => beqV 100 a y
  | none => false
def beqB (x y : Option ABlk) : Bool :=
  match x, y with
  | some (.cells t r l), some (.cells u s m) => t == u && r == s && beqV.beqL (beqV 100) l m
  | some (.map [] a), some (.map [] b) => a == b
  | _, _ => false
structure Snap where
  env : PT AVal
  heap : AHeap
  val : AVal
def Snap.no : Snap := ⟨.lf, .empty, .top⟩
/-- The run of a region's operations in their order, each state kept. -/
def runTr (S : St) (call : FuncId → List AVal → AHeap → Option (AVal × AHeap)) (nt : Nat) (ops : Array Oper) (ds : Ds) : List Oper → PT AVal → AHeap → Option (List Snap)
  | [], env, H => some [⟨env, H, .top⟩]
  | o :: r, env, H => match wantA ops env o with
    | none => none
    | some false => match aput nt env o.dst (.tup []) with
      | some env' => match runTr S call nt ops ds r env' H with
        | some l => some (⟨env, H, .tup []⟩ :: l)
        | none => none
      | none => none
    | some true => match stepA S call (evN S env o) ds H o with
      | none => none
      | some (v, _, H') => match aput nt env o.dst v with
        | some env' => match runTr S call nt ops ds r env' H' with
          | some l => some (⟨env, H, v⟩ :: l)
          | none => none
        | none => none
def compatB (P : Program) (ops : Array Oper) (j p : Nat) : Bool :=
  (List.range ops.size).all fun e => match ops[e]? with
    | none => true
    | some oe => (!effA P oe || ((!((Region.before ops).getD j 0).testBit e || Nat.blt e p) && (!((Region.before ops).getD e 0).testBit j || Nat.ble p e))) && (!makeA P oe || (!((Region.before ops).getD j 0).testBit e || Nat.blt e p))
/-- What reads reads the same wherever it may come up. -/
def stabB (S : St) (ops : Array Oper) (l : List Snap) : Bool :=
  (List.range ops.size).all fun j => match ops[j]? with
    | none => true
    | some o => (!readA S.P o || (match wantA ops (l.getD j .no).env o with
      | some true => (List.range (ops.size + 1)).all fun p => !compatB S.P ops j p || beqO (lop S.P (l.getD p .no).heap (evN S (l.getD j .no).env o) o) (l.getD j .no).val
      | _ => true)) &&
      (!makeA S.P o || (match wantA ops (l.getD j .no).env o with
      | some true => (List.range (ops.size + 1)).all fun p => !(compatB S.P ops j p && Nat.blt j p) || beqB ((l.getD p .no).heap.get (l.getD j .no).heap.next) ((l.getD (j + 1) .no).heap.get (l.getD j .no).heap.next)
      | _ => true))
def runDraw0 (S : St) (call : FuncId → List AVal → AHeap → Option (AVal × AHeap)) (nt : Nat) (ops : Array Oper) (env : PT AVal) (ds : Ds) (H : AHeap) : Option (PT AVal × Ds × AHeap) :=
  bif drawOk S.P ops then
    bif loose S.P ops then match runTr S call nt ops ds ops.toList env H with
      | none => none
      | some l => bif stabB S ops l then some ((l.getD ops.size .no).env, ds, (l.getD ops.size .no).heap) else none
    else runSeq S call nt ops true ops.toList env ds H
  else none
/-- The same operations, in another row. -/
def relab (inv : Nat → Nat) (o : Oper) : Oper :=
  { o with
    after := ((o.after.toList.filter (Region.binds .any)).map fun e => { e with on := inv e.on }).toArray
    guard := match o.guard with
      | some (j, w) => some (inv j, w)
      | none => none }
def invOf (perm : List Nat) (i : Nat) : Nat := perm.idxOf i
def permOps (ops : Array Oper) (perm : List Nat) : Array Oper :=
  (perm.filterMap fun i => (ops[i]?).map (relab (invOf perm))).toArray
def permOk (ops : Array Oper) (perm : List Nat) : Bool :=
  Nat.beq perm.length ops.size && (List.range ops.size).all fun i => perm.contains i && Nat.beq (invOf perm (perm.getD i 0)) i && Nat.blt (perm.getD i 0) ops.size &&
    match ops[i]? with
    | none => false
    | some o => (o.after.toList.all fun e => !Region.binds .any e || Nat.blt e.on ops.size) && (match o.guard with | some (j, _) => Nat.blt j ops.size | none => true)
/-- What makes no effect first. -/
def asapGo (P : Program) (ops : Array Oper) : Nat → List Nat → List Nat
  | 0, acc => acc.reverse
  | n + 1, acc =>
    let ready := (List.range ops.size).filter fun i => !acc.contains i && match ops[i]? with
      | none => false
      | some o => o.after.toList.all fun e => !Region.binds .any e || acc.contains e.on
    match ready.find? (fun i => match ops[i]? with | some o => !effA P o | none => false) with
    | some i => asapGo P ops n (i :: acc)
    | none => match ready with
      | i :: _ => asapGo P ops n (i :: acc)
      | [] => acc.reverse
def runDraw (S : St) (call : FuncId → List AVal → AHeap → Option (AVal × AHeap)) (nt : Nat) (ops : Array Oper) (env : PT AVal) (ds : Ds) (H : AHeap) : Option (PT AVal × Ds × AHeap) :=
  bif drawOk S.P ops then runDraw0 S call nt ops env ds H
  else match asapGo S.P ops ops.size [] with
    | perm => bif permOk ops perm then runDraw0 S call nt (permOps ops perm) env ds H else none

mutual
def acode (S : St) (nt : Nat) : Nat → Code → PT AVal → Ds → AHeap → Option (AExit × PT AVal × Ds × AHeap)
  | 0, _, _, _, _ => none
  | n + 1, c, env, ds, H => match c with
    | .skip => some (.normal, env, ds, H)
    | .label _ => some (.normal, env, ds, H)
    | .region _ ops draw => match draw with
      | false => match runSeq S (acall S n) nt ops false ops.toList env ds H with
        | some (env', ds', H') => some (.normal, env', ds', H')
        | none => none
      | true => match runDraw S (acall S n) nt ops env ds H with
        | some (env', ds', H') => some (.normal, env', ds', H')
        | none => none
    | .seq a b => match acode S nt n a env ds H with
      | some (.normal, env', ds', H') => acode S nt n b env' ds' H'
      | some (x, env', ds', H') => some (x, env', ds', H')
      | none => none
    | .cond c x y => match evO S env c with
      | .bool true => acode S nt n x env ds H
      | .bool false => acode S nt n y env ds H
      | _ => none
    | .block id b => match acode S nt n b env ds H with
      | some (.exit i, env', ds', H') => bif Nat.beq i id then some (.normal, env', ds', H') else some (.exit i, env', ds', H')
      | some (x, env', ds', H') => some (x, env', ds', H')
      | none => none
    | .loop b => match acode S nt n b env ds H with
      | some (.normal, env', ds', H') => acode S nt n (.loop b) env' ds' H'
      | some (x, env', ds', H') => some (x, env', ds', H')
      | none => none
    | .exit id => some (.exit id, env, ds, H)
    | .ret => some (.ret, env, ds, H)
    | .goto l => some (.goto l, env, ds, H)
    | .scope b => match acode S nt n b env ds H with
      | some (.goto _, _, _, _) => none
      | some (x, env', ds', H') => some (x, env', ds', H')
      | none => none
    | _ => none
def acall (S : St) : Nat → FuncId → List AVal → AHeap → Option (AVal × AHeap)
  | 0, _, _, _ => none
  | n + 1, f, args, H => match S.ext f with
    | some g => g args H
    | none => match S.P.funcs[f]? with
      | none => none
      | some fn => match fn.body with
        | none => none
        | some c => bif Nat.ble args.length fn.ntmps then match acode S fn.ntmps n c (PT.ofList args 0 .lf) [] H with
            | some (.normal, env, ds, H1) => match adefer S n ds H1 with
              | some H2 => match ares S.P H2 env fn with
                | some v => some (v, H2)
                | none => none
              | none => none
            | some (.ret, env, ds, H1) => match adefer S n ds H1 with
              | some H2 => match ares S.P H2 env fn with
                | some v => some (v, H2)
                | none => none
              | none => none
            | _ => none
          else none
def adefer (S : St) : Nat → Ds → AHeap → Option AHeap
  | n, [], H => match n with
    | _ => some H
  | 0, _ :: _, _ => none
  | n + 1, (f, args, cap) :: ds, H => match S.P.funcs[f]? with
    | none => none
    | some fn => match fn.body with
      | none => none
      | some c => bif Nat.ble (args ++ cap).length fn.ntmps then match acode S fn.ntmps n c (PT.ofList (args ++ cap) 0 .lf) [] H with
          | some (.normal, env, [], H1) => match ares S.P H1 env fn with
            | some _ => adefer S n ds H1
            | none => none
          | some (.ret, env, [], H1) => match ares S.P H1 env fn with
            | some _ => adefer S n ds H1
            | none => none
          | _ => none
        else none
end
end Ab
end Go.Proofs.YthhnhbpmpdminaaGreatDoor
