/-
All operations over the abstract memory but calls. Conditions: none.
-/
import Derived.Test.YthhnhbpmpdminaaGreatDoorAp
import Derived.Test.YthhnhbpmpdminaaGreatDoorAe
import Derived.Great.BuildSlice
namespace Go.Proofs.YthhnhbpmpdminaaGreatDoor
namespace Ab
set_option maxRecDepth 4096

/-- P: looks at no memory · L: reads · A: makes one block, and looks at none · E: the rest. -/
inductive Cls where | P | L | A | E
def convCls (P : Program) (src dst : TypeId) : Cls :=
  match tiOf P src, tiOf P dst with
  | some a, some b => match a.desc, b.desc with
    | .slice _, .string => .L
    | .string, .slice _ => .E
    | .pointer _, .unsafePointer => .L
    | .unsafePointer, .pointer _ => .L
    | _, _ => .P
  | _, _ => .P
def clsOf (P : Program) : Op → Cls
  | .move _ | .assign _ | .pick .. | .build .. | .nilCheck _ | .binOp .. | .unOp .. | .makeInterface .. | .makeFunc .. | .slice .. | .fieldAddr .. | .field .. | .indexAddr .. | .index .. | .extract .. => .P
  | .convert src dst _ => convCls P src dst
  | .load .. | .lookup .. => .L
  | .alloc _ | .box .. | .buildSlice .. | .makeSlice .. | .makeMap .. => .A
  | .call c => match c.callee with
    | .builtin .len => match c.argTypes.toList with
      | [t] => match tiOf P t with
        | some i => match i.desc with
          | .map _ _ => .L
          | _ => .P
        | none => .P
      | _ => .P
    | .builtin .min | .builtin .max | .builtin .unsafeSliceData => .P
    | _ => .E
  | _ => .E

/-- Equal? -/
def aeq (P : Program) (t : TypeId) (ox oy : Operand) (x y : AVal) : Option Bool :=
  match tiOf P t with
  | none => none
  | some i => match i.desc, x, y with
    | .bool, .bool a, .bool b => some (a == b)
    | .pointer _, .ptr none, .ptr b => some b.isNone
    | .pointer _, .ptr none, .rp _ => some false
    | .pointer _, .ptr (some _), .ptr none => some false
    | .pointer _, .rp _, .ptr none => some false
    | .pointer e, .ptr (some (b, o)), .ptr (some (b', o')) => match tiOf P e with
      | some ie => bif Nat.beq b b' && !(Nat.beq ie.size 0) then some (Nat.beq o o') else none
      | none => none
    | .slice _, .sl none _ _ _, .sl none _ _ _ => some true
    | .slice _, .sl (some _) _ _ _, .sl none _ _ _ => some false
    | .slice _, .ro _ _, .sl none _ _ _ => some false
    | .map _ _, .map none, .map b => some b.isNone
    | .map _ _, .map (some _), .map none => some false
    | .func _ _ _, .nilfn, .nilfn => some true
    | .func _ _ _, .nilfn, .fn _ _ _ => some false
    | .func _ _ _, .fn _ _ _, .nilfn => some false
    | .interface _, .nilif, .nilif => bif Region.isConst ox || Region.isConst oy then some true else none
    | .interface _, .nilif, .iface _ _ => some false
    | .interface _, .iface _ _, .nilif => some false
    | .struct _, .agg a, .agg b => match conc 8 (.agg a), conc 8 (.agg b) with
      | some ca, some cb => pureRun P (do eqGuard .eql t ox oy ca cb; Op.equal t ca cb)
      | _, _ => none
    | .array _ _, .agg a, .agg b => match conc 8 (.agg a), conc 8 (.agg b) with
      | some ca, some cb => pureRun P (do eqGuard .eql t ox oy ca cb; Op.equal t ca cb)
      | _, _ => none
    | _, _, _ => none
/- Numbers that are told but for one unknown. -/
def aleast (a b lo hi : Int) : Int := bif decide (0 ≤ a) then a * lo + b else a * hi + b
def amost (a b lo hi : Int) : Int := bif decide (0 ≤ a) then a * hi + b else a * lo + b
/-- Of a difference from m to M. -/
def acmp (op : BinOp) (m M : Int) : Option Bool :=
  match op with
  | .eql => bif decide (0 < m) || decide (M < 0) then some false else bif decide (m = 0) && decide (M = 0) then some true else none
  | .neq => bif decide (0 < m) || decide (M < 0) then some true else bif decide (m = 0) && decide (M = 0) then some false else none
  | .lss => bif decide (M < 0) then some true else bif decide (0 ≤ m) then some false else none
  | .leq => bif decide (M ≤ 0) then some true else bif decide (0 < m) then some false else none
  | .gtr => bif decide (0 < m) then some true else bif decide (M ≤ 0) then some false else none
  | .geq => bif decide (0 ≤ m) then some true else bif decide (M < 0) then some false else none
  | _ => none
def alin (k : IntKind) (a b lo hi : Int) : Option AVal :=
  match k with
  | .i64 => bif decide (-9223372036854775808 ≤ aleast a b lo hi) && decide (amost a b lo hi ≤ 9223372036854775807) then (bif decide (a = 0) then some (.int .i64 b) else some (.lin .i64 a b lo hi)) else none
  | _ => none
def alinop (op : BinOp) (k k' : IntKind) (a b c d lo hi : Int) : Option AVal :=
  bif decide (k = k') then match op with
    | .add => alin k (a + c) (b + d) lo hi
    | .sub => alin k (a - c) (b - d) lo hi
    | _ => match acmp op (aleast (a - c) (b - d) lo hi) (amost (a - c) (b - d) lo hi) with
      | some r => some (.bool r)
      | none => none
  else none
def abinop (P : Program) (op : BinOp) (t : TypeId) (ox oy : Operand) (x y : AVal) : Option AVal :=
  match x, y with
  | .int k a, .int k' b => match pureRun P (binOp op t (.int k a) (.int k' b)) with
    | some v => some (absV 2 v)
    | none => none
  | .str a, .str b => match op with
    | .add => bif Nat.ble (a.length + b.length) 9223372036854775807 then some (.str (a ++ b)) else none
    | .eql => some (.bool (a == b))
    | .neq => some (.bool (!(a == b)))
    | .lss => some (.bool (Op.bytesLess a b))
    | .leq => some (.bool (Op.bytesLess a b || a == b))
    | .gtr => some (.bool (!(Op.bytesLess a b || a == b)))
    | .geq => some (.bool (!(Op.bytesLess a b)))
    | _ => none
  | .lin k a b lo hi, .lin k' c d _ _ => alinop op k k' a b c d lo hi
  | .lin k a b lo hi, .int k' d => alinop op k k' a b 0 d lo hi
  | .int k b, .lin k' c d lo hi => alinop op k k' 0 b c d lo hi
  | _, _ => match op with
    | .eql => match aeq P t ox oy x y with
      | some b => some (.bool b)
      | none => none
    | .neq => match aeq P t ox oy x y with
      | some b => some (.bool (!b))
      | none => none
    | _ => none

def afill (place : Nat → Option (Nat × Nat)) : List AVal → List (Nat × AVal) → Option (List AVal)
  | cells, [] => some cells
  | cells, (i, v) :: rest => match place i with
    | none => none
    | some (off, size) => bif !isTop v && Nat.beq (cellsA v).length size && Nat.ble (off + (cellsA v).length) cells.length then afill place (asetL cells off (cellsA v)) rest else none
def abuild (P : Program) (t : TypeId) (parts : List (Nat × AVal)) : Option AVal :=
  match tiOf P t with
  | none => none
  | some i => match i.desc with
    | .array _ e => match tiOf P e with
      | some ie => match afill (fun j => some (j * ie.size, ie.size)) (cellsA i.zero) parts with
        | some l => some (.agg l)
        | none => none
      | none => none
    | .struct fields => match fields.toList.mapM (fun f => (P.info? f.type).map fun i => (f.offset, i.size)) with
      | some places => match afill (places.toArray[·]?) (cellsA i.zero) parts with
        | some l => some (.agg l)
        | none => none
      | none => none
    | _ => none

def alenP (P : Program) (t : TypeId) (x : AVal) : Option AVal :=
  match tiOf P t with
  | none => none
  | some i => match i.desc, x with
    | .string, .str s => some (.int .i64 (Int.ofNat s.length))
    | .slice _, .sl _ n _ _ => some (.int .i64 (Int.ofNat n))
    | .slice _, .ro n _ => some (.int .i64 (Int.ofNat n))
    | .slice _, .em => some (.int .i64 (Int.ofNat 0))
    | .array n _, _ => some (.int .i64 (Int.ofNat n))
    | _, _ => none
def popP (P : Program) (ev : Operand → AVal) (o : Oper) : Option AVal :=
  match o.op with
  | .move x | .assign x => some (ev x)
  | .pick c a b => match ev c with
    | .bool t => some (bif t then ev a else ev b)
    | _ => none
  | .build t parts => abuild P t (parts.toList.map fun p => (p.1, ev p.2))
  | .nilCheck x => match ev x with
    | .ptr (some a) => some (.ptr (some a))
    | .rp l => some (.rp l)
    | .fn f a b => some (.fn f a b)
    | .iface t v => some (.iface t v)
    | _ => none
  | .binOp op t x y _ => abinop P op t x y (ev x) (ev y)
  | .unOp op _ x => match conc 2 (ev x) with
    | some v => match pureRun P (Op.unary op v) with
      | some r => some (absV 2 r)
      | none => none
    | none => none
  | .convert src dst x => match conc 2 (ev x) with
    | some v => match pureRun P (convert src dst v) with
      | some r => some (absV 2 r)
      | none => none
    | none => none
  | .makeInterface t x => match tiOf P t with
    | some i => match i.desc with
      | .interface _ => none
      | _ => some (.iface t (ev x))
    | none => none
  | .makeFunc (.func f) first cap => some (.fn f (first.toList.map ev) (cap.toList.map ev))
  | .slice t x lo hi mx => aslice P t (ev x) (lo.map ev) (hi.map ev) (mx.map ev)
  | .fieldAddr s x f => afieldAddr P s (ev x) f
  | .field s x f => afield P s (ev x) f
  | .indexAddr t x i => aindexAddr P t (ev x) (ev i)
  | .index t x i => aindex P t (ev x) (ev i)
  | .extract x i => match ev x with
    | .tup l => l[i]?
    | _ => none
  | .call c => match c.callee with
    | .builtin .len => match c.args.toList, c.argTypes.toList with
      | [x], [t] => alenP P t (ev x)
      | _, _ => none
    | .builtin .unsafeSliceData => match c.args.toList with
      | [x] => match ev x with
        | .sl none _ _ _ => some (.ptr none)
        | .sl (some a) _ c _ => bif Nat.beq c 0 then none else some (.ptr (some a))
        | _ => none
      | _ => none
    | .builtin .min => match (c.args.toList.map ev).mapM (conc 2) with
      | some l => match pureRun P (Builtin.min_ c.argTypes o.type l.toArray) with
        | some r => some (absV 2 r)
        | none => none
      | none => none
    | .builtin .max => match (c.args.toList.map ev).mapM (conc 2) with
      | some l => match pureRun P (Builtin.max_ c.argTypes o.type l.toArray) with
        | some r => some (absV 2 r)
        | none => none
      | none => none
    | _ => none
  | _ => none

/- Maps. -/
def simpleD : TypeDesc → Bool
  | .int _ | .string | .bool => true
  | _ => false
def manyD : TypeDesc → Bool
  | .struct _ | .array _ _ => true
  | _ => false
def asameNow : TypeDesc → AVal → AVal → Option Bool
  | .int _, .int k a, .int k' b => if k = k' then some (a == b) else none
  | .string, .str a, .str b => some (a == b)
  | .bool, .bool a, .bool b => some (a == b)
  | _, _, _ => none
def afindNow (d : TypeDesc) (k : AVal) : List (AVal × AVal × Nat) → Nat → Option (Option (Nat × AVal))
  | [], _ => some none
  | e :: es, i => match asameNow d k e.1 with
    | some true => some (some (i, e.2.1))
    | some false => afindNow d k es (i + 1)
    | none => none
/-- Equal, cell by cell? -/
def aeqF (P : Program) (q : TypeId → AVal → AVal → Option Bool) (xs ys : List AVal) : List Field → Option Bool
  | [] => some true
  | f :: fs => bif f.name == "_" then aeqF P q xs ys fs else match apart P f.type xs f.offset, apart P f.type ys f.offset with
    | some a, some b => match q f.type a b with
      | some true => aeqF P q xs ys fs
      | some false => some false
      | none => none
    | _, _ => none
def alinEq (k k' : IntKind) (a b c d lo hi : Int) : Option Bool := bif decide (k = k') then acmp .eql (aleast (a - c) (b - d) lo hi) (amost (a - c) (b - d) lo hi) else none
def aeqIn (P : Program) : Nat → TypeId → AVal → AVal → Option Bool
  | 0, _, _, _ => none
  | n + 1, t, x, y => match tiOf P t with
    | none => none
    | some i => match i.desc, x, y with
      | .int _, .int k a, .int k' b => bif decide (k = k') then some (a == b) else none
      | .int _, .lin k a b lo hi, .lin k' c d _ _ => alinEq k k' a b c d lo hi
      | .int _, .lin k a b lo hi, .int k' d => alinEq k k' a b 0 d lo hi
      | .int _, .int k b, .lin k' c d lo hi => alinEq k k' 0 b c d lo hi
      | .string, .str a, .str b => some (a == b)
      | .bool, .bool a, .bool b => some (a == b)
      | .struct fs, .agg a, .agg b => bif P.stoodInHeld t then none else aeqF P (aeqIn P n) a b fs.toList
      | _, _, _ => none
/-- A key that can be one. -/
def acheck (P : Program) : Nat → TypeId → AVal → Bool
  | 0, _, _ => false
  | n + 1, t, x => match tiOf P t with
    | none => false
    | some i => match i.desc, x with
      | .int _, _ | .string, _ | .bool, _ => true
      | .struct fs, .agg a => fs.toList.all fun f => f.name == "_" || match apart P f.type a f.offset with
        | some v => acheck P n f.type v
        | none => false
      | _, _ => false
def afindAsk (P : Program) (kt : TypeId) (k : AVal) : List (AVal × AVal × Nat) → Nat → Option (Option (Nat × AVal))
  | [], _ => some none
  | e :: es, i => match aeqIn P 8 kt k e.1 with
    | some true => some (some (i, e.2.1))
    | some false => afindAsk P kt k es (i + 1)
    | none => none
def afindArr (P : Program) (kt : TypeId) (ck : Value) : List (AVal × AVal × Nat) → Nat → Option (Option (Nat × AVal))
  | [], _ => some none
  | e :: es, i => match conc 8 e.1 with
    | none => none
    | some ce => match pureRun P (Op.equal kt ck ce) with
      | some true => some (some (i, e.2.1))
      | some false => afindArr P kt ck es (i + 1)
      | none => none
/-- The place of a key that can be one. -/
def afind (P : Program) (em : Bool) (kt : TypeId) (k : AVal) (es : List (AVal × AVal × Nat)) : Option (Option (Nat × AVal)) :=
  match tiOf P kt with
  | none => none
  | some i => bif simpleD i.desc then afindNow i.desc k es 0 else match i.desc with
    | .struct _ => bif acheck P 8 kt k then afindAsk P kt k es 0 else none
    | .array _ _ => match conc 8 k with
      | none => none
      | some ck => match pureRun P (Instr.checkKey em 10000 kt ck) with
        | none => none
        | some _ => afindArr P kt ck es 0
    | _ => none
def alookup (P : Program) (H : AHeap) (t : TypeId) (x ix : AVal) (ok : Bool) : Option AVal :=
  match tiOf P t with
  | some i => match i.desc with
    | .map kt et => match (match x with
        | .map none => some []
        | .map (some r) => match H.get r with
          | some (.map es _) => some es
          | _ => none
        | _ => none) with
      | none => none
      | some es => match afind P es.isEmpty kt ix es with
        | none => none
        | some (some (_, v)) => some (bif ok then .tup [v, .bool true] else v)
        | some none => match tiOf P et with
          | some ie => some (bif ok then .tup [ie.zero, .bool false] else ie.zero)
          | none => none
    | _ => none
  | _ => none
def alen (P : Program) (H : AHeap) (t : TypeId) (x : AVal) : Option AVal :=
  match tiOf P t with
  | none => none
  | some i => match i.desc, x with
    | .map _ _, .map none => some (.int .i64 0)
    | .map _ _, .map (some r) => match H.get r with
      | some (.map es _) => some (.int .i64 (Int.ofNat es.length))
      | _ => none
    | _, _ => none
def afirst (H : AHeap) (size : Nat) (x : AVal) : Option (Nat × List AVal) :=
  match x with
  | .sl none _ _ _ => some (0, [])
  | .sl (some (b, o)) n _ _ => match H.get b with
    | some (.cells _ _ l) => bif Nat.ble (o + n * size) l.length then some (n, (l.drop o).take (n * size)) else none
    | _ => none
  | .ro n l => bif Nat.beq l.length (n * size) then some (n, l) else none
  | .str s => some (s.length, s.map fun b => .int .u8 (Int.ofNat b.toNat))
  | _ => none
/-- The bytes of a row. -/
def bytesOf : List AVal → Option (List UInt8)
  | [] => some []
  | a :: r => match a with
    | .int .u8 (.ofNat n) => bif Nat.blt n 256 then match bytesOf r with
      | some l => some (UInt8.ofNat n :: l)
      | none => none
      else none
    | _ => none
def noStr : AVal → Bool
  | .str _ => false
  | _ => true
def aback (P : Program) (H : AHeap) (src dst : TypeId) (x : AVal) : Option AVal :=
  match tiOf P src, tiOf P dst with
  | some a, some b => match a.desc, b.desc with
    | .slice e, .string => match tiOf P e with
      | some i => match i.desc with
        | .int .u8 => bif noStr x then match afirst H 1 x with
          | some (_, l) => match bytesOf l with
            | some s => some (.str s)
            | none => none
          | none => none
          else none
        | _ => none
      | none => none
    | _, _ => none
  | _, _ => none
def aunsafe (P : Program) (H : AHeap) (src dst : TypeId) (x : AVal) : Option AVal :=
  match tiOf P src, tiOf P dst with
  | some a, some b => match a.desc, b.desc, x with
    | .pointer t, .unsafePointer, .ptr (some (k, o)) => match tiOf P t, H.get k with
      | some i, some (.cells _ _ l) => bif Nat.blt 0 i.size && Nat.blt o l.length then some x else none
      | _, _ => none
    | .unsafePointer, .pointer u, .ptr (some (k, 0)) => match tiOf P u, H.get k with
      | some i, some (.cells e _ l) => bif Nat.beq e u && Nat.blt 0 i.size && Nat.ble i.size l.length then some x else none
      | _, _ => none
    | _, _, _ => none
  | _, _ => none
/-- unsafe.String of a row's head: the row is not looked at again. -/
def astring (P : Program) (H : AHeap) (t : TypeId) (p n : AVal) : Option (AVal × AHeap) :=
  match p, n with
  | .ptr _, .int .i64 (.ofNat 0) => some (.str [], H)
  | .ptr (some (k, 0)), .int .i64 (.ofNat (n + 1)) => match tiOf P t, H.get k with
    | some i, some (.cells e _ l) => match i.desc with
      | .pointer u => match tiOf P e with
        | some ie => bif Nat.beq e u && Nat.beq ie.size 1 && Nat.ble (n + 1) l.length && Nat.ble (n + 1) 9223372036854775807 then match bytesOf (l.take (n + 1)) with
            | some s => some (.str s, H.kill k)
            | none => none
          else none
        | none => none
      | _ => none
    | _, _ => none
  | _, _ => none
def byteVals (s : List UInt8) : List AVal := s.map fun b => .int .u8 (.ofNat b.toNat)
def abytes (P : Program) (src dst : TypeId) (x : AVal) : Option AVal :=
  match tiOf P src, tiOf P dst with
  | some a, some b => match a.desc, b.desc with
    | .string, .slice e => match tiOf P e with
      | some i => match i.desc, x with
        | .int .u8, .str s => some (.ro s.length (byteVals s))
        | _, _ => none
      | none => none
    | _, _ => none
  | _, _ => none
def lop (P : Program) (H : AHeap) (ev : Operand → AVal) (o : Oper) : Option AVal :=
  match o.op with
  | .load t a => aload P H t (ev a)
  | .lookup t x i ok => alookup P H t (ev x) (ev i) ok
  | .convert src dst x => match aback P H src dst (ev x) with
    | some v => some v
    | none => aunsafe P H src dst (ev x)
  | .call c => match c.callee, c.args.toList, c.argTypes.toList with
    | .builtin .len, [x], [t] => alen P H t (ev x)
    | _, _, _ => none
  | _ => none

def srcOk (iu ie : TI) (x : AVal) : Bool :=
  match iu.desc, x with
  | .slice _, .str _ => false
  | .slice _, _ => true
  | .string, .str _ => Nat.beq ie.size 1 && Nat.beq ie.bytes 1
  | _, _ => false
def aappend (P : Program) (H : AHeap) (t u : TypeId) (s x : AVal) : Option (AVal × AHeap) :=
  match tiOf P t, tiOf P u with
  | some i, some iu => match i.desc with
    | .slice e => match tiOf P e with
      | none => none
      | some ie => bif srcOk iu ie x && Nat.blt 0 ie.size && Nat.beq (cellsA ie.zero).length ie.size then
          match afirst H ie.size x with
          | none => none
          | some (0, _) => match s with
            | .sl _ _ _ _ => some (s, H)
            | _ => none
          | some (m + 1, news) => bif news.all oneA then match s with
            | .sl none 0 0 _ => bif Nat.ble ((m + 1) * ie.bytes) 140737488355328 && Nat.ble (m + 1) 9223372036854775807 then some (.sl (some (H.next, 0)) (m + 1) (m + 1) true, H.new (.cells e true news)) else none
            | .sl (some (b, 0)) n cap true => match H.get b with
              | some (.cells be true l) => bif Nat.beq be e && Nat.ble (n * ie.size) l.length then
                  bif Nat.ble (n + (m + 1)) cap then
                    bif Nat.ble (n * ie.size + news.length) l.length then some (.sl (some (b, 0)) (n + (m + 1)) cap true, H.put b (.cells be true (asetL l (n * ie.size) news))) else none
                  else bif Nat.ble ((n + (m + 1)) * ie.bytes) 140737488355328 && Nat.ble (n + (m + 1)) 9223372036854775807 && (l.take (n * ie.size)).all oneA then
                    some (.sl (some (H.next, 0)) (n + (m + 1)) (n + (m + 1)) true, (H.kill b).new (.cells e true (l.take (n * ie.size) ++ news))) else none
                else none
              | _ => none
            | _ => none
            else none
        else none
    | _ => none
  | _, _ => none
/-- A block that is made, and the value that tells it. -/
def amk (P : Program) (ev : Operand → AVal) (o : Oper) : Option (ABlk × (Nat → AVal)) :=
  match o.op with
  | .alloc e => match tiOf P e with
    | some i => some (.cells e false (cellsA i.zero), fun b => .ptr (some (b, 0)))
    | none => none
  | .box e x => bif isTop (ev x) then none else some (.cells e false (cellsA (ev x)), fun b => .ptr (some (b, 0)))
  | .buildSlice t len parts => match tiOf P t with
    | none => none
    | some i => match i.desc with
      | .slice e => match tiOf P e with
        | none => none
        | some ie => bif Nat.ble (len * ie.size) 16777216 && Nat.blt 0 ie.size && Nat.beq (cellsA ie.zero).length ie.size then
            match afill (fun j => some (j * ie.size, ie.size)) ((List.replicate len (cellsA ie.zero)).flatten) (parts.toList.map fun p => (p.1, ev p.2)) with
            | some l => some (.cells e true l, fun b => .sl (some (b, 0)) len len true)
            | none => none
          else none
      | _ => none
  | .makeMap _ none => some (.map [] 0, fun b => .map (some b))
  | .makeSlice t l c => match tiOf P t, ev l, ev c with
    | some i, .int .i64 (.ofNat a), .int .i64 (.ofNat b) => match i.desc with
      | .slice e => match tiOf P e with
        | none => none
        | some ie => bif Nat.ble a b && Nat.ble b 281474976710656 && Nat.ble (ie.bytes * b) 281474976710656 && Nat.blt 0 ie.size && Nat.beq (cellsA ie.zero).length ie.size then
            some (.cells e true ((List.replicate b (cellsA ie.zero)).flatten), fun n => .sl (some (n, 0)) a b true)
          else none
      | _ => none
    | _, _, _ => none
  | _ => none
def amapUpdate (P : Program) (H : AHeap) (t : TypeId) (m k x : AVal) : Option AHeap :=
  match tiOf P t, m with
  | some i, .map (some r) => match i.desc with
    | .map kt _ => match H.get r with
      | some (.map es clock) => match afind P false kt k es with
        | none => none
        | some none => some (H.put r (.map (es ++ [(k, x, clock)]) (clock + 1)))
        | some (some (j, _)) => match es[j]? with
          | none => none
          | some e => match conc 8 e.1, conc 8 k with
            | some ce, some ck => bif Instr.sameBits 10000 ce ck then some (H.put r (.map (es.set j (k, x, e.2.2)) clock)) else none
            | _, _ => none
      | _ => none
    | _ => none
  | _, _ => none
def anext (H : AHeap) (x : AVal) : Option (AVal × AHeap) :=
  match x with
  | .ptr (some (b, 0)) => match H.get b with
    | some (.iter s pos) => bif Nat.blt pos s.length then
        match Utf8.decode ⟨s.toArray⟩ pos with
        | (c, width) => some (.tup [.bool true, .int .i64 (Int.ofNat pos), .int .i32 (Int.ofNat c)], H.put b (.iter s (pos + width)))
      else some (.tup [.bool false], H)
    | _ => none
  | _ => none
def eop (P : Program) (H : AHeap) (ev : Operand → AVal) (o : Oper) : Option (AVal × AHeap) :=
  match o.op with
  | .store t a x => match astore P H t (ev a) (ev x) with
    | some H' => some (.tup [], H')
    | none => none
  | .mapUpdate t m k x | .insert t m k x => match amapUpdate P H t (ev m) (ev k) (ev x) with
    | some H' => some (.tup [], H')
    | none => none
  | .range t x => match tiOf P t, ev x with
    | some i, .str s => match i.desc with
      | .string => some (.ptr (some (H.next, 0)), H.new (.iter s 0))
      | _ => none
    | _, _ => none
  | .next x true => anext H (ev x)
  | .convert src dst x => match abytes P src dst (ev x) with
    | some v => some (v, H)
    | none => none
  | .call c => match c.callee, c.args.toList, c.argTypes.toList with
    | .builtin .append, [s, x], [t, u] => aappend P H t u (ev s) (ev x)
    | .builtin .unsafeString, [p, n], [t, _] => astring P H t (ev p) (ev n)
    | _, _, _ => none
  | _ => none
end Ab
end Go.Proofs.YthhnhbpmpdminaaGreatDoor
