/-
Several texts as one: Ac Ad Ag Ah Ai Aj.
-/
import Derived.Test.YthhnhbpmpdminaaGreatDoorXA
import Derived.Defers
import Derived.Scope
import Derived.Deep.LoopGhost
import Derived.Laws.Externs
import Derived.Below
/-
Code over the abstract memory, run to its end, and that the model's comes to what stands for it. Conditions: the table of given functions is sound.
-/
namespace Go.Proofs.YthhnhbpmpdminaaGreatDoor
namespace Ab
set_option maxRecDepth 4096

abbrev Ds := List (FuncId × List AVal × List AVal)
structure St where
  P : Program
  ext : Nat → Option (List AVal → AHeap → Option (AVal × AHeap))
  glob : Nat → AVal
def evO (S : St) (env : PT AVal) : Operand → AVal
  | .tmp t => match env.get t with
    | some v => v
    | none => .top
  | .const v => absV 8 v
  | .global g => S.glob g
  | .func f => .fn f [] []
def aput (nt : Nat) (env : PT AVal) (dst : Option Tmp) (v : AVal) : Option (PT AVal) :=
  match dst with
  | none => some env
  | some d => bif Nat.blt d nt then some (env.set d (some v)) else none
/-- Is an operation carried out? -/
def wantA (ops : Array Oper) (env : PT AVal) (o : Oper) : Option Bool :=
  match o.guard with
  | none => some true
  | some (j, want) => match ops[j]? with
    | none => some false
    | some p => match p.dst with
      | none => some false
      | some d => match env.get d with
        | some (.bool b) => some (b == want)
        | some (.tup []) => some false
        | _ => none
inductive AExit where
  | normal
  | exit (id : Nat)
  | ret
  | goto (l : Nat)
def AExit.toExit : AExit → Exit
  | .normal => .normal
  | .exit id => .exit id
  | .ret => .ret
  | .goto l => .goto l

/-- A result. -/
def ares1 (P : Program) (H : AHeap) (env : PT AVal) : ResultVar → Option AVal
  | .tmp t => match env.get t with
    | some v => some v
    | none => some .top
  | .cell a t => match env.get a with
    | some v => aload P H t v
    | none => none
def ares (P : Program) (H : AHeap) (env : PT AVal) (fn : Func) : Option AVal :=
  match fn.results.toList.mapM (ares1 P H env) with
  | none => none
  | some [v] => some v
  | some l => some (.tup l)

/-- One operation. -/
def stepA (S : St) (call : FuncId → List AVal → AHeap → Option (AVal × AHeap)) (ev : Operand → AVal) (ds : Ds) (H : AHeap) (o : Oper) : Option (AVal × Ds × AHeap) :=
  match clsOf S.P o.op with
  | .P => match popP S.P ev o with
    | some v => some (v, ds, H)
    | none => none
  | .L => match lop S.P H ev o with
    | some v => some (v, ds, H)
    | none => none
  | .A => match amk S.P ev o with
    | some (x, f) => some (f H.next, ds, H.new x)
    | none => none
  | .E => match o.op with
    | .call c => match c.callee with
      | .value f => match ev f with
        | .fn g first cap => match call g ((first ++ c.args.toList.map ev) ++ cap) H with
          | some (v, H') => some (v, ds, H')
          | none => none
        | _ => none
      | _ => match eop S.P H ev o with
        | some (v, H') => some (v, ds, H')
        | none => none
    | .defer c => match c.callee with
      | .value f => match ev f with
        | .fn g first cap => some (.tup [], (g, first ++ c.args.toList.map ev, cap) :: ds, H)
        | _ => none
      | _ => none
    | _ => match eop S.P H ev o with
      | some (v, H') => some (v, ds, H')
      | none => none
/-- In a region that draws its order: what an operation does not name it does not see. -/
def evN (S : St) (env : PT AVal) (o : Oper) : Operand → AVal
  | .tmp t => bif o.op.operands.toList.any (fun | .tmp u => Nat.beq u t | _ => false) then evO S env (.tmp t) else .top
  | x => evO S env x
def evP (S : St) (draw : Bool) (env : PT AVal) (o : Oper) : Operand → AVal :=
  match draw with
  | true => evN S env o
  | false => evO S env
def runSeq (S : St) (call : FuncId → List AVal → AHeap → Option (AVal × AHeap)) (nt : Nat) (ops : Array Oper) (draw : Bool) : List Oper → PT AVal → Ds → AHeap → Option (PT AVal × Ds × AHeap)
  | [], env, ds, H => some (env, ds, H)
  | o :: r, env, ds, H => match wantA ops env o with
    | none => none
    | some false => match aput nt env o.dst (.tup []) with
      | some env' => runSeq S call nt ops draw r env' ds H
      | none => none
    | some true => match stepA S call (evP S draw env o) ds H o with
      | none => none
      | some (v, ds', H') => match aput nt env o.dst v with
        | some env' => runSeq S call nt ops draw r env' ds' H'
        | none => none

/- A region that draws its order. -/
def effA (P : Program) (o : Oper) : Bool :=
  match clsOf P o.op with
  | .E => true
  | _ => false
def readA (P : Program) (o : Oper) : Bool :=
  match clsOf P o.op with
  | .L => true
  | _ => false
def makeA (P : Program) (o : Oper) : Bool :=
  match clsOf P o.op with
  | .A => true
  | _ => false
def defA (o : Oper) : Bool :=
  match o.op with
  | .defer _ => true
  | _ => false
/-- The temporaries that an operation names. -/
def namesA (ops : Array Oper) (o : Oper) : List Tmp :=
  o.dst.toList ++ o.looksAt ops
def clash (P : Program) (ops : Array Oper) (x y : Oper) : Bool :=
  (match x.dst with
   | some d => (namesA ops y).contains d
   | none => false) ||
  (match y.dst with
   | some d => (namesA ops x).contains d
   | none => false) ||
  (effA P x && effA P y)
/-- Of any two operations that may not change places, one waits for the other. -/
def drawOk (P : Program) (ops : Array Oper) : Bool :=
  (List.range ops.size).all fun j => match ops[j]? with
    | none => true
    | some y => !defA y && (y.after.toList.all fun e => !Region.binds .any e || Nat.blt e.on j) && (List.range j).all fun i => match ops[i]? with
      | none => true
      | some x => !(clash P ops x y || (effA P x && makeA P y)) || ((Region.before ops).getD j 0).testBit i
/-- One read, one effect, in either order. -/
def loose (P : Program) (ops : Array Oper) : Bool :=
  (List.range ops.size).any fun j => match ops[j]? with
    | none => false
    | some y => (List.range j).any fun i => match ops[i]? with
      | none => false
      | some x => (((readA P x && effA P y) || (effA P x && readA P y) || (makeA P x && effA P y) || (makeA P x && readA P y)) && !((Region.before ops).getD j 0).testBit i) || (readA P x && makeA P y)
/-- Are two values one? -/
def beqV : Nat → AVal → AVal → Bool
  | 0, _, _ => false
  | n + 1, x, y => match x, y with
    | .top, .top => true
    | .em, .em => true
    | .bool a, .bool b => a == b
    | .int k a, .int j b => k == j && a == b
    | .str a, .str b => a == b
    | .ptr a, .ptr b => a == b
    | .rp a, .rp b => beqL (beqV n) a b
    | .sl a l c o, .sl b m d p => a == b && l == m && c == d && o == p
    | .ro l a, .ro m b => l == m && beqL (beqV n) a b
    | .map a, .map b => a == b
    | .fn f a b, .fn g c d => f == g && beqL (beqV n) a c && beqL (beqV n) b d
    | .nilfn, .nilfn => true
    | .iface t a, .iface u b => t == u && beqV n a b
    | .nilif, .nilif => true
    | .agg a, .agg b => beqL (beqV n) a b
    | .tup a, .tup b => beqL (beqV n) a b
    | .lin k a b l h, .lin j c d m g => k == j && a == c && b == d && l == m && h == g
    | .unk i, .unk j => i == j
    | _, _ => false
where beqL (f : AVal → AVal → Bool) : List AVal → List AVal → Bool
  | [], [] => true
  | a :: l, b :: m => f a b && beqL f l m
  | _, _ => false
def beqO (x : Option AVal) (y : AVal) : Bool :=
  match x with
  | some a => beqV 100 a y
  | none => false
def beqB (x y : Option ABlk) : Bool :=
  match x, y with
  | some (.cells t r l), some (.cells u s m) => t == u && r == s && beqV.beqL (beqV 100) l m
  | some (.map [] a), some (.map [] b) => a == b
  | _, _ => false
structure Snap where
  env : PT AVal
  heap : AHeap
  val : AVal
def Snap.no : Snap := ⟨.lf, .empty, .top⟩
/-- The run of a region's operations in their order, each state kept. -/
def runTr (S : St) (call : FuncId → List AVal → AHeap → Option (AVal × AHeap)) (nt : Nat) (ops : Array Oper) (ds : Ds) : List Oper → PT AVal → AHeap → Option (List Snap)
  | [], env, H => some [⟨env, H, .top⟩]
  | o :: r, env, H => match wantA ops env o with
    | none => none
    | some false => match aput nt env o.dst (.tup []) with
      | some env' => match runTr S call nt ops ds r env' H with
        | some l => some (⟨env, H, .tup []⟩ :: l)
        | none => none
      | none => none
    | some true => match stepA S call (evN S env o) ds H o with
      | none => none
      | some (v, _, H') => match aput nt env o.dst v with
        | some env' => match runTr S call nt ops ds r env' H' with
          | some l => some (⟨env, H, v⟩ :: l)
          | none => none
        | none => none
def compatB (P : Program) (ops : Array Oper) (j p : Nat) : Bool :=
  (List.range ops.size).all fun e => match ops[e]? with
    | none => true
    | some oe => (!effA P oe || ((!((Region.before ops).getD j 0).testBit e || Nat.blt e p) && (!((Region.before ops).getD e 0).testBit j || Nat.ble p e))) && (!makeA P oe || (!((Region.before ops).getD j 0).testBit e || Nat.blt e p))
/-- What reads reads the same wherever it may come up. -/
def stabB (S : St) (ops : Array Oper) (l : List Snap) : Bool :=
  (List.range ops.size).all fun j => match ops[j]? with
    | none => true
    | some o => (!readA S.P o || (match wantA ops (l.getD j .no).env o with
      | some true => (List.range (ops.size + 1)).all fun p => !compatB S.P ops j p || beqO (lop S.P (l.getD p .no).heap (evN S (l.getD j .no).env o) o) (l.getD j .no).val
      | _ => true)) &&
      (!makeA S.P o || (match wantA ops (l.getD j .no).env o with
      | some true => (List.range (ops.size + 1)).all fun p => !(compatB S.P ops j p && Nat.blt j p) || beqB ((l.getD p .no).heap.get (l.getD j .no).heap.next) ((l.getD (j + 1) .no).heap.get (l.getD j .no).heap.next)
      | _ => true))
def runDraw0 (S : St) (call : FuncId → List AVal → AHeap → Option (AVal × AHeap)) (nt : Nat) (ops : Array Oper) (env : PT AVal) (ds : Ds) (H : AHeap) : Option (PT AVal × Ds × AHeap) :=
  bif drawOk S.P ops then
    bif loose S.P ops then match runTr S call nt ops ds ops.toList env H with
      | none => none
      | some l => bif stabB S ops l then some ((l.getD ops.size .no).env, ds, (l.getD ops.size .no).heap) else none
    else runSeq S call nt ops true ops.toList env ds H
  else none
/-- The same operations, in another row. -/
def relab (inv : Nat → Nat) (o : Oper) : Oper :=
  { o with
    after := ((o.after.toList.filter (Region.binds .any)).map fun e => { e with on := inv e.on }).toArray
    guard := match o.guard with
      | some (j, w) => some (inv j, w)
      | none => none }
def invOf (perm : List Nat) (i : Nat) : Nat := perm.idxOf i
def permOps (ops : Array Oper) (perm : List Nat) : Array Oper :=
  (perm.filterMap fun i => (ops[i]?).map (relab (invOf perm))).toArray
def permOk (ops : Array Oper) (perm : List Nat) : Bool :=
  Nat.beq perm.length ops.size && (List.range ops.size).all fun i => perm.contains i && Nat.beq (invOf perm (perm.getD i 0)) i && Nat.blt (perm.getD i 0) ops.size &&
    match ops[i]? with
    | none => false
    | some o => (o.after.toList.all fun e => !Region.binds .any e || Nat.blt e.on ops.size) && (match o.guard with | some (j, _) => Nat.blt j ops.size | none => true)
/-- What makes no effect first. -/
def asapGo (P : Program) (ops : Array Oper) : Nat → List Nat → List Nat
  | 0, acc => acc.reverse
  | n + 1, acc =>
    let ready := (List.range ops.size).filter fun i => !acc.contains i && match ops[i]? with
      | none => false
      | some o => o.after.toList.all fun e => !Region.binds .any e || acc.contains e.on
    match ready.find? (fun i => match ops[i]? with | some o => !effA P o | none => false) with
    | some i => asapGo P ops n (i :: acc)
    | none => match ready with
      | i :: _ => asapGo P ops n (i :: acc)
      | [] => acc.reverse
def runDraw (S : St) (call : FuncId → List AVal → AHeap → Option (AVal × AHeap)) (nt : Nat) (ops : Array Oper) (env : PT AVal) (ds : Ds) (H : AHeap) : Option (PT AVal × Ds × AHeap) :=
  bif drawOk S.P ops then runDraw0 S call nt ops env ds H
  else match asapGo S.P ops ops.size [] with
    | perm => bif permOk ops perm then runDraw0 S call nt (permOps ops perm) env ds H else none

mutual
def acode (S : St) (nt : Nat) : Nat → Code → PT AVal → Ds → AHeap → Option (AExit × PT AVal × Ds × AHeap)
  | 0, _, _, _, _ => none
  | n + 1, c, env, ds, H => match c with
    | .skip => some (.normal, env, ds, H)
    | .label _ => some (.normal, env, ds, H)
    | .region _ ops draw => match draw with
      | false => match runSeq S (acall S n) nt ops false ops.toList env ds H with
        | some (env', ds', H') => some (.normal, env', ds', H')
        | none => none
      | true => match runDraw S (acall S n) nt ops env ds H with
        | some (env', ds', H') => some (.normal, env', ds', H')
        | none => none
    | .seq a b => match acode S nt n a env ds H with
      | some (.normal, env', ds', H') => acode S nt n b env' ds' H'
      | some (x, env', ds', H') => some (x, env', ds', H')
      | none => none
    | .cond c x y => match evO S env c with
      | .bool true => acode S nt n x env ds H
      | .bool false => acode S nt n y env ds H
      | _ => none
    | .block id b => match acode S nt n b env ds H with
      | some (.exit i, env', ds', H') => bif Nat.beq i id then some (.normal, env', ds', H') else some (.exit i, env', ds', H')
      | some (x, env', ds', H') => some (x, env', ds', H')
      | none => none
    | .loop b => match acode S nt n b env ds H with
      | some (.normal, env', ds', H') => acode S nt n (.loop b) env' ds' H'
      | some (x, env', ds', H') => some (x, env', ds', H')
      | none => none
    | .exit id => some (.exit id, env, ds, H)
    | .ret => some (.ret, env, ds, H)
    | .goto l => some (.goto l, env, ds, H)
    | .scope b => match acode S nt n b env ds H with
      | some (.goto _, _, _, _) => none
      | some (x, env', ds', H') => some (x, env', ds', H')
      | none => none
    | _ => none
def acall (S : St) : Nat → FuncId → List AVal → AHeap → Option (AVal × AHeap)
  | 0, _, _, _ => none
  | n + 1, f, args, H => match S.ext f with
    | some g => g args H
    | none => match S.P.funcs[f]? with
      | none => none
      | some fn => match fn.body with
        | none => none
        | some c => bif Nat.ble args.length fn.ntmps then match acode S fn.ntmps n c (PT.ofList args 0 .lf) [] H with
            | some (.normal, env, ds, H1) => match adefer S n ds H1 with
              | some H2 => match ares S.P H2 env fn with
                | some v => some (v, H2)
                | none => none
              | none => none
            | some (.ret, env, ds, H1) => match adefer S n ds H1 with
              | some H2 => match ares S.P H2 env fn with
                | some v => some (v, H2)
                | none => none
              | none => none
            | _ => none
          else none
def adefer (S : St) : Nat → Ds → AHeap → Option AHeap
  | n, [], H => match n with
    | _ => some H
  | 0, _ :: _, _ => none
  | n + 1, (f, args, cap) :: ds, H => match S.P.funcs[f]? with
    | none => none
    | some fn => match fn.body with
      | none => none
      | some c => bif Nat.ble (args ++ cap).length fn.ntmps then match acode S fn.ntmps n c (PT.ofList (args ++ cap) 0 .lf) [] H with
          | some (.normal, env, [], H1) => match ares S.P H1 env fn with
            | some _ => adefer S n ds H1
            | none => none
          | some (.ret, env, [], H1) => match ares S.P H1 env fn with
            | some _ => adefer S n ds H1
            | none => none
          | _ => none
        else none
end
end Ab
end Go.Proofs.YthhnhbpmpdminaaGreatDoor
/-
An operation over the abstract memory, calls too, and a list of them, stands for the model's. Conditions: the calls are sound.
-/
namespace Go.Proofs.YthhnhbpmpdminaaGreatDoor
namespace Ab
set_option maxRecDepth 4096

def CallSem (P : Program) (f : FuncId) (args : Array Value) (W : World) (post : Value → World → Prop) : Prop :=
  (∃ v' W', (callFunc f args).run P W = .ok (.value v') W' ∧ post v' W') ∨
  ((callFunc f args).run P W = .ok (.enter f args) W ∧ Calls P f args W fun e W' => ∃ v', e = .returned v' ∧ post v' W')
def CallOk (P : Program) (C0 : Ctx) (f : FuncId) (args : List AVal) (H : AHeap) (v : AVal) (H' : AHeap) : Prop :=
  ∀ (q : Nat → Bool) (C : Ctx) (W : World) (args' : Array Value), C0.Le C → R P q C H W → VRs C args args'.toList → CallSem P f args' W fun v' W' => ∃ C', C.Le C' ∧ VR C' v v' ∧ R P q C' H' W'
def Cal (P : Program) (C0 : Ctx) (call : FuncId → List AVal → AHeap → Option (AVal × AHeap)) : Prop :=
  ∀ f args H v H', call f args H = some (v, H') → CallOk P C0 f args H v H'
inductive DR (C : Ctx) : Ds → List Deferred → Prop
  | nil : DR C [] []
  | cons (f : FuncId) (args cap : List AVal) (args' cap' : Array Value) (ds : Ds) (dl : List Deferred) (ha : VRs C args args'.toList) (hc : VRs C cap cap'.toList) (t : DR C ds dl) :
      DR C ((f, args, cap) :: ds) ({ target := .fn (.func f) cap', args := args' } :: dl)
theorem DR.mono {C D : Ctx} (h : C.Le D) {ds : Ds} {dl : List Deferred} (d : DR C ds dl) : DR D ds dl := by
  induction d with
  | nil => exact .nil
  | cons f args cap args' cap' ds dl ha hc t ih => exact .cons _ _ _ _ _ _ _ (ha.mono h) (hc.mono h) ih

section
variable {S : St} {q : Nat → Bool} {C0 C : Ctx} {H : AHeap} {W : World}
theorem stepA_sound {call : FuncId → List AVal → AHeap → Option (AVal × AHeap)} (hcal : Cal S.P C0 call) {ev : Operand → AVal} {ds ds' : Ds} {H' : AHeap} {o : Oper} {v : AVal}
    (h : stepA S call ev ds H o = some (v, ds', H')) (h0 : C0.Le C) (hR : R S.P q C H W) {a : Act} (he : ∀ x, VR C (ev x) (a.eval x)) (hd : DR C ds a.defers) {K : Act → World → Prop} {Q : Exit → Act → World → Prop}
    (hK : ∀ (C' : Ctx) (v' : Value) (W' : World) (dl : List Deferred), C.Le C' → VR C' v v' → R S.P q C' H' W' → DR C' ds' dl → K (({ a with defers := dl } : Act).put o.dst v') W') : Oper.wp S.P o a W K Q := by
  have fromE : ∀ {v : AVal} {H' : AHeap}, (∀ (C' : Ctx) (v' : Value) (W' : World) (dl : List Deferred), C.Le C' → VR C' v v' → R S.P q C' H' W' → DR C' ds dl → K (({ a with defers := dl } : Act).put o.dst v') W') →
      eop S.P H ev o = some (v, H') → Oper.wp S.P o a W K Q := by
    intro v H' hK hl
    obtain ⟨C', v', W', nx, h1, h2, h3, h4, h5⟩ := eop_sound hR hl he
    unfold Oper.wp
    rw [h2]
    rcases h3 with rfl | ⟨rfl, rfl⟩
    · exact hK C' v' W' a.defers h1 h4 h5 (hd.mono h1)
    · exact hK C' undef W' a.defers h1 h4 h5 (hd.mono h1)
  unfold stepA at h
  split at h
  · split at h
    · rename_i w hw
      simp only [Option.some.injEq, Prod.mk.injEq] at h
      obtain ⟨rfl, rfl, rfl⟩ := h
      obtain ⟨v', h1, h2⟩ := popP_sound (P := S.P) hw he
      unfold Oper.wp
      rw [h1]
      exact hK C v' W a.defers (.refl C) h2 hR hd
    · cases h
  · split at h
    · rename_i w hw
      simp only [Option.some.injEq, Prod.mk.injEq] at h
      obtain ⟨rfl, rfl, rfl⟩ := h
      obtain ⟨v', h1, h2⟩ := lop_sound hR hw he
      unfold Oper.wp
      rw [h1]
      exact hK C v' W a.defers (.refl C) h2 hR hd
    · cases h
  · split at h
    · rename_i x f hx
      simp only [Option.some.injEq, Prod.mk.injEq] at h
      obtain ⟨rfl, rfl, rfl⟩ := h
      obtain ⟨ob, rc, v', h1, h2, h3⟩ := amk_sound (P := S.P) hx he
      have hle := Ctx.bind_le hR.fresh W.heap.size rc
      unfold Oper.wp
      rw [h1]
      exact hK _ _ _ a.defers hle (h3 _ _ _ (Ctx.bind_self _ _ _ _)) (hR.alloc (h2.mono hle)) (hd.mono hle)
    · cases h
  · split at h
    · rename_i c hop
      split at h
      · rename_i f hf
        split at h
        · rename_i g first cap hg
          split at h
          · rename_i w H1 hw
            simp only [Option.some.injEq, Prod.mk.injEq] at h
            obtain ⟨rfl, rfl, rfl⟩ := h
            have hfv := he f
            rw [hg] at hfv
            generalize hfe : a.eval f = fv at hfv
            cases hfv with
            | fn _ _ _ l' m' hl hm =>
              have hargs : VRs C ((first ++ c.args.toList.map ev) ++ cap) ((l' ++ c.args.map a.eval) ++ m').toList := by
                rw [Array.toList_append, Array.toList_append, Array.toList_map]
                exact (hl.append (VRs.ofMap he _)).append hm
              have hrun : (execOp a.eval o).run S.P W = (callFunc g ((l' ++ c.args.map a.eval) ++ m')).run S.P W := by
                unfold execOp
                rw [hop]
                simp only [resolve, hf, hfe, Deferred.ofValue]
                rfl
              unfold Oper.wp
              rw [hrun]
              rcases hcal _ _ _ _ _ hw q C W _ h0 hR hargs with ⟨v', W', h1, C', h2, h3, h4⟩ | ⟨h1, h2⟩
              · rw [h1]
                exact hK C' v' W' a.defers h2 h3 h4 (hd.mono h2)
              · rw [h1]
                refine h2.mono fun e W' ⟨v', he', C', h3, h4, h5⟩ => ?_
                subst he'
                exact hK C' v' W' a.defers h3 h4 h5 (hd.mono h3)
          · cases h
        · cases h
      · split at h
        · rename_i w H1 hw
          simp only [Option.some.injEq, Prod.mk.injEq] at h
          obtain ⟨rfl, rfl, rfl⟩ := h
          exact fromE hK hw
        · cases h
    · rename_i c hop
      split at h
      · rename_i f hf
        split at h
        · rename_i g first cap hg
          simp only [Option.some.injEq, Prod.mk.injEq] at h
          obtain ⟨rfl, rfl, rfl⟩ := h
          have hfv := he f
          rw [hg] at hfv
          generalize hfe : a.eval f = fv at hfv
          cases hfv with
          | fn _ _ _ l' m' hl hm =>
            have hrun : (execOp a.eval o).run S.P W = .ok (.defer { target := .fn (.func g) m', args := l' ++ c.args.map a.eval }) W := by
              unfold execOp
              rw [hop]
              simp only [resolve, hf, hfe, Deferred.ofValue]
              rfl
            unfold Oper.wp
            rw [hrun]
            exact hK C undef W _ (.refl C) (undef_VR C) hR (.cons _ _ _ _ _ _ _ (by rw [Array.toList_append, Array.toList_map]; exact hl.append (VRs.ofMap he _)) hm hd)
        · cases h
      · cases h
    · split at h
      · rename_i w H1 hw
        simp only [Option.some.injEq, Prod.mk.injEq] at h
        obtain ⟨rfl, rfl, rfl⟩ := h
        exact fromE hK hw
      · cases h

/-- The frame. -/
structure FRm (C : Ctx) (nt : Nat) (env : PT AVal) (tmps : Array Value) : Prop where
  size : tmps.size = nt
  rel : ∀ t v, env.get t = some v → VR C v (tmps.getD t undef)
theorem FRm.mono {C D : Ctx} (h : C.Le D) {nt : Nat} {env : PT AVal} {tmps : Array Value} (f : FRm C nt env tmps) : FRm D nt env tmps := ⟨f.size, fun t v ht => (f.rel t v ht).mono h⟩
theorem FRm.put {nt : Nat} {env env' : PT AVal} {a : Act} {dst : Option Tmp} {v : AVal} {v' : Value} (f : FRm C nt env a.tmps) (h : aput nt env dst v = some env') (hv : VR C v v') : FRm C nt env' (a.put dst v').tmps := by
  unfold aput at h
  cases dst with
  | none => simp only [Option.some.injEq] at h; subst h; exact f
  | some d =>
    cases hlt : Nat.blt d nt with
    | false => simp only [hlt] at h; cases h
    | true =>
      simp only [hlt, cond_true, Option.some.injEq] at h
      subst h
      have hlt := Nat.blt_eq.mp hlt
      refine ⟨by simp [Act.put, f.size], fun t w ht => ?_⟩
      rw [PT.get_set] at ht
      by_cases e : t = d
      · subst e
        rw [if_pos rfl] at ht
        cases ht
        have : t < a.tmps.size := by rw [f.size]; exact hlt
        simpa [Act.put, this] using hv
      · rw [if_neg e] at ht
        have := f.rel t w ht
        have hne : ¬ d = t := fun q => e q.symm
        simpa [Act.put, Array.getElem?_setIfInBounds, hne] using this
/-- The variables of packages. -/
def GlobOk (S : St) (C0 : Ctx) : Prop := ∀ g, VR C0 (S.glob g) (.pointer (some ⟨g, 0, none⟩))
theorem evO_sound (hg : GlobOk S C0) (h0 : C0.Le C) {nt : Nat} {env : PT AVal} {a : Act} (f : FRm C nt env a.tmps) (x : Operand) : VR C (evO S env x) (a.eval x) := by
  cases x with
  | tmp t =>
    simp only [evO]
    split
    · rename_i v hv; exact f.rel t v hv
    · exact .top _
  | const v => exact absV_VR C 8 v
  | global g => exact (hg g).mono h0
  | func g => exact .fn _ _ _ _ _ .nil .nil
theorem want_sound {ops : Array Oper} {env : PT AVal} {o : Oper} {b : Bool} (h : wantA ops env o = some b) {tmps : Array Value}
    (hr : ∀ j w p d v, o.guard = some (j, w) → ops[j]? = some p → p.dst = some d → env.get d = some v → VR C v (tmps.getD d undef)) : Region.wanted o (yielded ops tmps) = b := by
  unfold wantA at h
  unfold Region.wanted
  split at h
  · rename_i hg; rw [hg]; simpa using h
  · rename_i j w hg
    rw [hg]
    simp only []
    unfold yielded
    split at h
    · rename_i hj
      simp only [Option.some.injEq] at h; subst h
      rw [hj]; rfl
    · rename_i p hj
      rw [hj]
      split at h
      · rename_i hd
        simp only [Option.some.injEq] at h; subst h
        simp only [Option.bind_some, hd]; rfl
      · rename_i d hd
        have hr := hr j w p d
        split at h
        · rename_i c hc
          simp only [Option.some.injEq] at h; subst h
          have hv := hr _ hg hj hd hc
          simp only [Option.bind_some, hd]
          cases hq : tmps[d]? with
          | none =>
            rw [Array.getD_eq_getD_getElem?, hq] at hv
            cases hv
          | some u =>
            rw [Array.getD_eq_getD_getElem?, hq] at hv
            simp only [Option.getD_some] at hv
            cases hv
            cases c <;> cases w <;> rfl
        · rename_i hc
          simp only [Option.some.injEq] at h; subst h
          have hv := hr _ hg hj hd hc
          simp only [Option.bind_some, hd]
          cases hq : tmps[d]? with
          | none => cases w <;> rfl
          | some u =>
            rw [Array.getD_eq_getD_getElem?, hq] at hv
            simp only [Option.getD_some] at hv
            cases hv
            cases w <;> rfl
        · cases h

/-- A region whose operations come up in their order. -/
theorem runSeq_sound {call : FuncId → List AVal → AHeap → Option (AVal × AHeap)} (hcal : Cal S.P C0 call) (hg : GlobOk S C0) {nt : Nat} {ops : Array Oper} {env' : PT AVal} {ds' : Ds} {H' : AHeap} {Q : Exit → Act → World → Prop} :
    ∀ (r : List Oper) (i : Nat) (C : Ctx) (env : PT AVal) (ds : Ds) (H : AHeap) (W : World) (a : Act), ops.toList.drop i = r → runSeq S call nt ops false r env ds H = some (env', ds', H') → C0.Le C → R S.P q C H W → FRm C nt env a.tmps → DR C ds a.defers →
    (∀ (C' : Ctx) (a' : Act) (W' : World), C.Le C' → R S.P q C' H' W' → FRm C' nt env' a'.tmps → DR C' ds' a'.defers → Q .normal a' W') → wpOps S.P ops Q (List.range' i r.length) a W
  | [], i, C, env, ds, H, W, a, _, h, _, hR, hf, hd, hQ => by
    simp only [runSeq, Option.some.injEq, Prod.mk.injEq] at h
    obtain ⟨rfl, rfl, rfl⟩ := h
    exact hQ C a W (.refl C) hR hf hd
  | o :: r, i, C, env, ds, H, W, a, hr, h, h0, hR, hf, hd, hQ => by
    have ho : ops[i]? = some o := by
      have : (ops.toList.drop i)[0]? = some o := by rw [hr]; rfl
      rw [List.getElem?_drop] at this
      simpa using this
    have hr' : ops.toList.drop (i + 1) = r := by
      rw [← List.drop_drop, hr]; rfl
    simp only [runSeq] at h
    rw [List.length_cons, List.range'_succ]
    simp only [wpOps, ho]
    split at h
    · cases h
    · rename_i hw
      have hwt := want_sound hw (tmps := a.tmps) (fun j w p d v _ _ _ hv => hf.rel d v hv)
      rw [hwt]
      simp only [Bool.false_eq_true, if_false]
      split at h
      · rename_i env1 hp
        exact runSeq_sound hcal hg r (i + 1) C env1 ds H W _ hr' h h0 hR (hf.put hp (undef_VR C)) (by cases hdst : o.dst <;> simpa [Act.put] using hd) hQ
      · cases h
    · rename_i hw
      have hwt := want_sound hw (tmps := a.tmps) (fun j w p d v _ _ _ hv => hf.rel d v hv)
      rw [hwt]
      simp only [if_true]
      split at h
      · cases h
      · rename_i v ds1 H1 hst
        split at h
        · rename_i env1 hp
          refine .inl (stepA_sound hcal hst h0 hR (evO_sound hg h0 hf) hd fun C' v' W' dl hC hv hR' hd' => ?_)
          refine runSeq_sound hcal hg r (i + 1) C' env1 ds1 H1 W' _ hr' h (h0.trans hC) hR' ?_ ?_ fun C2 a2 W2 hC2 => hQ C2 a2 W2 (hC.trans hC2)
          · exact FRm.put (a := { a with defers := dl }) (hf.mono hC) hp hv
          · cases hdst : o.dst <;> simpa [Act.put] using hd'
        · cases h
end
end Ab
end Go.Proofs.YthhnhbpmpdminaaGreatDoor
/-
A region that draws its order, over the abstract memory: one order for all. Conditions: the calls are sound; what reads would read the same wherever it may come up.
-/
namespace Go.Proofs.YthhnhbpmpdminaaGreatDoor
namespace Ab
set_option maxRecDepth 4096

theorem any_bits (acc : Array Nat) (i : Nat) : ∀ (l : List Edge) (s : Nat), (l.foldl (fun s e => if Region.binds .any e then s ||| 2 ^ e.on ||| acc.getD e.on 0 else s) s).testBit i = true →
    s.testBit i = true ∨ ∃ e ∈ l, Region.binds .any e = true ∧ (i = e.on ∨ (acc.getD e.on 0).testBit i = true)
  | [], s, h => .inl h
  | e :: l, s, h => by
    rw [List.foldl_cons] at h
    rcases any_bits acc i l _ h with h1 | ⟨e', h1, h2⟩
    · by_cases hb : Region.binds .any e = true
      · rw [if_pos hb, Nat.testBit_or, Nat.testBit_or] at h1
        simp only [Bool.or_eq_true] at h1
        rcases h1 with (h1 | h1) | h1
        · exact .inl h1
        · exact .inr ⟨e, List.mem_cons_self, hb, .inl (by rw [Nat.testBit_two_pow] at h1; simpa using (of_decide_eq_true h1).symm)⟩
        · exact .inr ⟨e, List.mem_cons_self, hb, .inr h1⟩
      · rw [if_neg hb] at h1; exact .inl h1
    · exact .inr ⟨e', List.mem_cons_of_mem _ h1, h2⟩
theorem push_self (acc : Array Nat) (v : Nat) : (acc.push v).getD acc.size 0 = v := by
  rw [Array.getD_eq_getD_getElem?, Array.getElem?_push_size]; rfl
theorem push_else (acc : Array Nat) (v k : Nat) (h : k ≠ acc.size) : (acc.push v).getD k 0 = acc.getD k 0 := by
  rw [Array.getD_eq_getD_getElem?, Array.getD_eq_getD_getElem?, Array.getElem?_push, if_neg h]
def befG (acc : Array Nat) (o : Oper) : Array Nat := acc.push (o.after.foldl (fun s e => if Region.binds .any e then s ||| 2 ^ e.on ||| acc.getD e.on 0 else s) 0)
theorem befG_fold : ∀ (l : List Oper) (acc : Array Nat), (l.foldl befG acc).size = acc.size + l.length ∧ ∀ k, k < acc.size → (l.foldl befG acc).getD k 0 = acc.getD k 0
  | [], acc => ⟨rfl, fun _ _ => rfl⟩
  | o :: l, acc => by
    obtain ⟨h1, h2⟩ := befG_fold l (befG acc o)
    have hs : (befG acc o).size = acc.size + 1 := by simp [befG]
    refine ⟨by rw [List.foldl_cons, h1, hs, List.length_cons]; omega, fun k hk => ?_⟩
    rw [List.foldl_cons, h2 k (by omega)]
    exact push_else _ _ _ (by omega)
theorem before_eq (ops : Array Oper) : Region.before ops = ops.toList.foldl befG #[] := by
  unfold Region.before; rw [← Array.foldl_toList]; rfl
theorem fold_split (l : List Oper) (j : Nat) (o : Oper) (h : l[j]? = some o) : l.foldl befG #[] = (l.drop (j + 1)).foldl befG (befG ((l.take j).foldl befG #[]) o) := by
  have hj := (List.getElem?_eq_some_iff.1 h).1
  have e : l = l.take j ++ o :: l.drop (j + 1) := by
    have h1 := List.take_append_drop j l
    rw [List.drop_eq_getElem_cons hj, (List.getElem?_eq_some_iff.1 h).2] at h1
    exact h1.symm
  conv => lhs; rw [e]
  rw [List.foldl_append, List.foldl_cons]
theorem before_bit {ops : Array Oper} {j i : Nat} {o : Oper} (ho : ops[j]? = some o) (h : ((Region.before ops).getD j 0).testBit i = true) :
    ∃ e ∈ o.after.toList, Region.binds .any e = true ∧ (i = e.on ∨ ((Region.before ops).getD e.on 0).testBit i = true) := by
  rw [before_eq] at h ⊢
  have ho' : ops.toList[j]? = some o := by simpa using ho
  rw [fold_split _ j o ho'] at h ⊢
  have hj := (List.getElem?_eq_some_iff.1 ho').1
  have hA := (befG_fold (ops.toList.take j) #[]).1
  have hsz : ((ops.toList.take j).foldl befG #[]).size = j := by
    rw [hA, List.length_take, Nat.min_eq_left (Nat.le_of_lt hj)]; simp
  generalize (ops.toList.take j).foldl befG #[] = acc at *
  obtain ⟨_, hkeep⟩ := befG_fold (ops.toList.drop (j + 1)) (befG acc o)
  have hs2 : (befG acc o).size = j + 1 := by simp [befG, hsz]
  rw [hkeep j (by omega)] at h
  have hself : (befG acc o).getD j 0 = o.after.foldl (fun s e => if Region.binds .any e then s ||| 2 ^ e.on ||| acc.getD e.on 0 else s) 0 := by
    rw [← hsz]; exact push_self _ _
  rw [hself, ← Array.foldl_toList] at h
  rcases any_bits acc i _ 0 h with h1 | ⟨e, h1, h2, h3⟩
  · simp at h1
  · refine ⟨e, h1, h2, h3.imp id fun h4 => ?_⟩
    by_cases hlt : e.on < j
    · rw [hkeep e.on (by omega), befG, push_else _ _ _ (by omega)]
      exact h4
    · exfalso
      rw [Array.getD_eq_getD_getElem?, Array.getElem?_eq_none (by omega)] at h4
      simp at h4

/-- What has come up brings with it what it waits for. -/
def Closed (ops : Array Oper) (L : Nat → Bool) : Prop := ∀ k o, ops[k]? = some o → L k = true → ∀ i, ((Region.before ops).getD k 0).testBit i = true → L i = true
def isReady (ops : Array Oper) (L : Nat → Bool) (i : Nat) (o : Oper) : Prop := ops[i]? = some o ∧ L i = false ∧ ∀ e ∈ o.after.toList, Region.binds .any e = true → L e.on = true
theorem ready_anc {ops : Array Oper} {L : Nat → Bool} (hc : Closed ops L) (hin : ∀ k, L k = true → k < ops.size) {i : Nat} {o : Oper} (hr : isReady ops L i o) {j : Nat} (h : ((Region.before ops).getD i 0).testBit j = true) : L j = true := by
  obtain ⟨e, h1, h2, h3⟩ := before_bit hr.1 h
  have he := hr.2.2 e h1 h2
  rcases h3 with rfl | h3
  · exact he
  · have hlt := hin _ he
    exact hc e.on _ (Array.getElem?_eq_getElem hlt) he j h3
def setL (L : Nat → Bool) (i : Nat) : Nat → Bool := fun k => if k = i then true else L k
theorem Closed.step {ops : Array Oper} {L : Nat → Bool} (hc : Closed ops L) (hin : ∀ k, L k = true → k < ops.size) {i : Nat} {o : Oper} (hr : isReady ops L i o) : Closed ops (setL L i) := by
  intro k ok hk hL j hj
  unfold setL at hL ⊢
  by_cases e : k = i
  · subst e
    have := ready_anc hc hin hr hj
    split
    · rfl
    · exact this
  · rw [if_neg e] at hL
    split
    · rfl
    · exact hc k ok hk hL j hj

def dstA (ops : Array Oper) (m : Nat) : Option Tmp := (ops[m]?).bind (·.dst)
/-- The last one that wrote a temporary. -/
def lw (ops : Array Oper) (L : Nat → Bool) : Nat → Tmp → Option Nat
  | 0, _ => none
  | m + 1, t => if L m = true ∧ dstA ops m = some t then some m else lw ops L m t
section
variable {P : Program} {ops : Array Oper} {L : Nat → Bool}
theorem lw_ready (hclash : ∀ x y ox oy, x < y → ops[x]? = some ox → ops[y]? = some oy → clash P ops ox oy = true → ((Region.before ops).getD y 0).testBit x = true)
    (hc : Closed ops L) (hin : ∀ k, L k = true → k < ops.size) {i : Nat} {o : Oper} (hr : isReady ops L i o) {t : Tmp} (ht : (namesA ops o).contains t = true) :
    ∀ m, lw ops L m t = lw ops (fun _ => true) (min m i) t
  | 0 => by rw [Nat.zero_min]; rfl
  | m + 1 => by
    have ih := lw_ready hclash hc hin hr ht m
    by_cases hd : dstA ops m = some t
    · have hom : ∃ om, ops[m]? = some om ∧ om.dst = some t := by
        unfold dstA at hd
        cases h : ops[m]? with
        | none => rw [h] at hd; cases hd
        | some om => rw [h] at hd; exact ⟨om, rfl, hd⟩
      obtain ⟨om, hom, hdm⟩ := hom
      rcases Nat.lt_trichotomy m i with hlt | heq | hgt
      · have hL : L m = true := ready_anc hc hin hr (hclash m i om o hlt hom hr.1 (by unfold clash; rw [hdm]; simp only [ht, Bool.true_or]))
        rw [show min (m + 1) i = m + 1 by omega, lw, if_pos ⟨hL, hd⟩, lw, if_pos ⟨rfl, hd⟩]
      · subst heq
        rw [show min (m + 1) m = min m m by omega, ← ih, lw, if_neg]
        rintro ⟨h1, _⟩
        rw [hr.2.1] at h1; cases h1
      · rw [show min (m + 1) i = min m i by omega, ← ih, lw, if_neg]
        rintro ⟨h1, _⟩
        have hb := hclash i m o om hgt hr.1 hom (by unfold clash; rw [hdm]; simp only [ht, Bool.true_or, Bool.or_true])
        have := hc m om hom h1 i hb
        rw [hr.2.1] at this; cases this
    · rw [lw, if_neg (fun q => hd q.2), ih]
      rcases Nat.lt_or_ge m i with hlt | hge
      · rw [show min m i = m by omega, show min (m + 1) i = m + 1 by omega, lw, if_neg (fun q => hd q.2)]
      · rw [show min m i = i by omega, show min (m + 1) i = i by omega]
theorem lw_other {i : Nat} {t : Tmp} (h : dstA ops i ≠ some t) : ∀ m, lw ops (setL L i) m t = lw ops L m t
  | 0 => rfl
  | m + 1 => by
    rw [lw, lw, lw_other h m]
    by_cases e : m = i
    · subst e
      rw [if_neg (fun q => h q.2), if_neg (fun q => h q.2)]
    · have : setL L i m = L m := by unfold setL; rw [if_neg e]
      rw [this]
theorem lw_own (hclash : ∀ x y ox oy, x < y → ops[x]? = some ox → ops[y]? = some oy → clash P ops ox oy = true → ((Region.before ops).getD y 0).testBit x = true)
    (hc : Closed ops L) {i : Nat} {o : Oper} (hr : isReady ops L i o) {d : Tmp} (hd : o.dst = some d) : ∀ m, i < m → lw ops (setL L i) m d = some i
  | 0, h => by omega
  | m + 1, h => by
    have hdi : dstA ops i = some d := by unfold dstA; rw [hr.1]; exact hd
    by_cases e : m = i
    · subst e
      rw [lw, if_pos ⟨by unfold setL; rw [if_pos rfl], hdi⟩]
    · rw [lw, if_neg, lw_own hclash hc hr hd m (by omega)]
      rintro ⟨h1, h2⟩
      have h1' : L m = true := by unfold setL at h1; rwa [if_neg e] at h1
      unfold dstA at h2
      cases hom : ops[m]? with
      | none => rw [hom] at h2; cases h2
      | some om =>
        rw [hom] at h2
        have h2 : om.dst = some d := h2
        have hb := hclash i m o om (by omega) hr.1 hom (by unfold clash namesA; rw [hd, h2]; simp)
        have := hc m om hom h1' i hb
        rw [hr.2.1] at this; cases this
end

/-- One run of the operations in their order, written out. -/
structure Trace (S : St) (call : FuncId → List AVal → AHeap → Option (AVal × AHeap)) (nt : Nat) (ops : Array Oper) (r : List Oper) (ds : Ds) (envs : Nat → PT AVal) (heaps : Nat → AHeap) (vals : Nat → AVal) : Prop where
  step : ∀ i o, r[i]? = some o → aput nt (envs i) o.dst (vals i) = some (envs (i + 1)) ∧
    ((wantA ops (envs i) o = some false ∧ vals i = .tup [] ∧ heaps (i + 1) = heaps i) ∨ (wantA ops (envs i) o = some true ∧ stepA S call (evN S (envs i) o) ds (heaps i) o = some (vals i, ds, heaps (i + 1))))
theorem stepA_ds {S : St} {call : FuncId → List AVal → AHeap → Option (AVal × AHeap)} {ev : Operand → AVal} {ds ds' : Ds} {H H' : AHeap} {o : Oper} {v : AVal} (h : stepA S call ev ds H o = some (v, ds', H')) (hd : defA o = false) : ds' = ds := by
  unfold stepA at h
  have hnd : ∀ c, o.op ≠ .defer c := fun c e => by unfold defA at hd; rw [e] at hd; cases hd
  (repeat' split at h) <;> first
    | (exact absurd ‹o.op = .defer _› (hnd _))
    | (simp only [Option.some.injEq, Prod.mk.injEq] at h; exact h.2.1.symm)
    | cases h
theorem trace_of {S : St} {call : FuncId → List AVal → AHeap → Option (AVal × AHeap)} {nt : Nat} {ops : Array Oper} {ds : Ds} : ∀ (r : List Oper) (env : PT AVal) (H : AHeap) (env' : PT AVal) (ds' : Ds) (H' : AHeap), (∀ o ∈ r, defA o = false) →
    runSeq S call nt ops true r env ds H = some (env', ds', H') → ∃ envs heaps vals, Trace S call nt ops r ds envs heaps vals ∧ envs 0 = env ∧ heaps 0 = H ∧ envs r.length = env' ∧ heaps r.length = H' ∧ ds' = ds
  | [], env, H, env', ds', H', _, h => by
    simp only [runSeq, Option.some.injEq, Prod.mk.injEq] at h
    obtain ⟨rfl, rfl, rfl⟩ := h
    exact ⟨fun _ => env, fun _ => H, fun _ => .top, ⟨fun i o ho => by simp at ho⟩, rfl, rfl, rfl, rfl, rfl⟩
  | o :: r, env, H, env', ds', H', hdf, h => by
    simp only [runSeq] at h
    have mk : ∀ (env1 : PT AVal) (H1 : AHeap) (v : AVal), runSeq S call nt ops true r env1 ds H1 = some (env', ds', H') → aput nt env o.dst v = some env1 →
        ((wantA ops env o = some false ∧ v = .tup [] ∧ H1 = H) ∨ (wantA ops env o = some true ∧ stepA S call (evN S env o) ds H o = some (v, ds, H1))) →
        ∃ envs heaps vals, Trace S call nt ops (o :: r) ds envs heaps vals ∧ envs 0 = env ∧ heaps 0 = H ∧ envs (o :: r).length = env' ∧ heaps (o :: r).length = H' ∧ ds' = ds := by
      intro env1 H1 v hrun hp hs
      obtain ⟨es, hs', vs, ht, h1, h2, h3, h4, h5⟩ := trace_of r env1 H1 env' ds' H' (fun x hx => hdf x (List.mem_cons_of_mem _ hx)) hrun
      refine ⟨fun | 0 => env | k + 1 => es k, fun | 0 => H | k + 1 => hs' k, fun | 0 => v | k + 1 => vs k, ⟨fun i x hx => ?_⟩, rfl, rfl, h3, h4, h5⟩
      cases i with
      | zero =>
        simp at hx; subst hx
        show aput nt env o.dst v = some (es 0) ∧ ((wantA ops env o = some false ∧ v = .tup [] ∧ hs' 0 = H) ∨ (wantA ops env o = some true ∧ stepA S call (evN S env o) ds H o = some (v, ds, hs' 0)))
        rw [h1, h2]
        exact ⟨hp, hs⟩
      | succ i => exact ht.step i x (by simpa using hx)
    split at h
    · cases h
    · rename_i hw
      split at h
      · rename_i env1 hp
        exact mk env1 H (.tup []) h hp (.inl ⟨hw, rfl, rfl⟩)
      · cases h
    · rename_i hw
      split at h
      · cases h
      · rename_i v ds1 H1 hst
        have hds := stepA_ds hst (hdf o List.mem_cons_self)
        subst hds
        split at h
        · rename_i env1 hp
          exact mk env1 H1 v h hp (.inr ⟨hw, hst⟩)
        · cases h
theorem beqL_eq {f : AVal → AVal → Bool} (hf : ∀ a b, f a b = true → a = b) : ∀ (l m : List AVal), beqV.beqL f l m = true → l = m
  | [], [], _ => rfl
  | a :: l, b :: m, h => by
    simp only [beqV.beqL, Bool.and_eq_true] at h
    rw [hf a b h.1, beqL_eq hf l m h.2]
  | [], _ :: _, h => by cases h
  | _ :: _, [], h => by cases h
theorem beqV_eq : ∀ (n : Nat) (a b : AVal), beqV n a b = true → a = b
  | 0, _, _, h => by cases h
  | n + 1, a, b, h => by
    have hl := beqL_eq (beqV_eq n)
    unfold beqV at h
    split at h
    · rfl
    · rfl
    · rw [eq_of_beq h]
    · simp only [Bool.and_eq_true] at h; rw [eq_of_beq h.1, eq_of_beq h.2]
    · rw [eq_of_beq h]
    · rw [eq_of_beq h]
    · rw [hl _ _ h]
    · simp only [Bool.and_eq_true] at h; rw [eq_of_beq h.1.1.1, eq_of_beq h.1.1.2, eq_of_beq h.1.2, eq_of_beq h.2]
    · simp only [Bool.and_eq_true] at h; rw [eq_of_beq h.1, hl _ _ h.2]
    · rw [eq_of_beq h]
    · simp only [Bool.and_eq_true] at h; rw [eq_of_beq h.1.1, hl _ _ h.1.2, hl _ _ h.2]
    · rfl
    · simp only [Bool.and_eq_true] at h; rw [eq_of_beq h.1, beqV_eq n _ _ h.2]
    · rfl
    · rw [hl _ _ h]
    · rw [hl _ _ h]
    · simp only [Bool.and_eq_true] at h; rw [eq_of_beq h.1.1.1.1, eq_of_beq h.1.1.1.2, eq_of_beq h.1.1.2, eq_of_beq h.1.2, eq_of_beq h.2]
    · rw [eq_of_beq h]
    · cases h
theorem trace_of_tr {S : St} {call : FuncId → List AVal → AHeap → Option (AVal × AHeap)} {nt : Nat} {ops : Array Oper} {ds : Ds} : ∀ (r : List Oper) (env : PT AVal) (H : AHeap) (l : List Snap), (∀ o ∈ r, defA o = false) →
    runTr S call nt ops ds r env H = some l → Trace S call nt ops r ds (fun i => (l.getD i .no).env) (fun i => (l.getD i .no).heap) (fun i => (l.getD i .no).val) ∧ (l.getD 0 .no).env = env ∧ (l.getD 0 .no).heap = H
  | [], env, H, l, _, h => by
    simp only [runTr, Option.some.injEq] at h
    subst h
    exact ⟨⟨fun i o ho => by simp at ho⟩, rfl, rfl⟩
  | o :: r, env, H, l, hdf, h => by
    simp only [runTr] at h
    have mk : ∀ (env1 : PT AVal) (H1 : AHeap) (v : AVal) (l1 : List Snap), runTr S call nt ops ds r env1 H1 = some l1 → l = ⟨env, H, v⟩ :: l1 → aput nt env o.dst v = some env1 →
        ((wantA ops env o = some false ∧ v = .tup [] ∧ H1 = H) ∨ (wantA ops env o = some true ∧ stepA S call (evN S env o) ds H o = some (v, ds, H1))) →
        Trace S call nt ops (o :: r) ds (fun i => (l.getD i .no).env) (fun i => (l.getD i .no).heap) (fun i => (l.getD i .no).val) ∧ (l.getD 0 .no).env = env ∧ (l.getD 0 .no).heap = H := by
      intro env1 H1 v l1 hrun hl hp hs
      subst hl
      obtain ⟨ht, h1, h2⟩ := trace_of_tr r env1 H1 l1 (fun x hx => hdf x (List.mem_cons_of_mem _ hx)) hrun
      refine ⟨⟨fun i x hx => ?_⟩, rfl, rfl⟩
      cases i with
      | zero =>
        simp at hx; subst hx
        show aput nt env o.dst v = some (l1.getD 0 .no).env ∧ ((wantA ops env o = some false ∧ v = .tup [] ∧ (l1.getD 0 .no).heap = H) ∨ (wantA ops env o = some true ∧ stepA S call (evN S env o) ds H o = some (v, ds, (l1.getD 0 .no).heap)))
        rw [h1, h2]
        exact ⟨hp, hs⟩
      | succ i => exact ht.step i x (by simpa using hx)
    split at h
    · cases h
    · rename_i hw
      split at h
      · rename_i env1 hp
        split at h
        · rename_i l1 hr
          exact mk env1 H (.tup []) l1 hr (Option.some.inj h).symm hp (.inl ⟨hw, rfl, rfl⟩)
        · cases h
      · cases h
    · rename_i hw
      split at h
      · cases h
      · rename_i v ds1 H1 hst
        have hds := stepA_ds hst (hdf o List.mem_cons_self)
        subst hds
        split at h
        · rename_i env1 hp
          split at h
          · rename_i l1 hr
            exact mk env1 H1 v l1 hr (Option.some.inj h).symm hp (.inr ⟨hw, hst⟩)
          · cases h
        · cases h
end Ab
end Go.Proofs.YthhnhbpmpdminaaGreatDoor
/-
A region that draws its order, over the abstract memory: all orders come to the one that was run. Conditions: the calls are sound; what reads would read the same wherever it may come up.
-/
namespace Go.Proofs.YthhnhbpmpdminaaGreatDoor
namespace Ab
set_option maxRecDepth 4096

def evT (env : PT AVal) (t : Tmp) : AVal :=
  match env.get t with
  | some v => v
  | none => .top
def valOf (env0 : PT AVal) (vals : Nat → AVal) : Option Nat → Tmp → AVal
  | none, t => evT env0 t
  | some k, _ => vals k
/-- May a read come up where so many operations' effects are done? -/
def compat (P : Program) (ops : Array Oper) (j p : Nat) : Prop :=
  (∀ e oe, ops[e]? = some oe → effA P oe = true → (((Region.before ops).getD j 0).testBit e = true → e < p) ∧ (((Region.before ops).getD e 0).testBit j = true → p ≤ e)) ∧
  ∀ e oe, ops[e]? = some oe → makeA P oe = true → ((Region.before ops).getD j 0).testBit e = true → e < p

/-- A block that is known, and not yet made. -/
def Pend (S : St) (ops : Array Oper) (envs : Nat → PT AVal) (L : Nat → Bool) (p i : Nat) : Prop :=
  ∃ o, ops[i]? = some o ∧ makeA S.P o = true ∧ wantA ops (envs i) o = some true ∧ i < p ∧ L i = false
structure QInv (S : St) (ops : Array Oper) (envs : Nat → PT AVal) (heaps : Nat → AHeap) (q1 : Nat → Bool) (L : Nat → Bool) (q : Nat → Bool) (p : Nat) : Prop where
  iff : ∀ b, q b = true ↔ q1 b = true ∨ ∃ i, Pend S ops envs L p i ∧ b = (heaps i).next
  fresh : ∀ i, Pend S ops envs L p i → q1 (heaps i).next = false
  dist : ∀ i j, Pend S ops envs L p i → Pend S ops envs L p j → (heaps i).next = (heaps j).next → i = j
structure DInv (S : St) (ops : Array Oper) (nt : Nat) (ds : Ds) (envs : Nat → PT AVal) (heaps : Nat → AHeap) (vals : Nat → AVal) (q1 : Nat → Bool) (L : Nat → Bool) (C : Ctx) (a : Act) (W : World) : Prop where
  closed : Closed ops L
  inside : ∀ k, L k = true → k < ops.size
  heap : ∃ p q, p ≤ ops.size ∧ (∀ e oe, ops[e]? = some oe → effA S.P oe = true → (L e = true ↔ e < p)) ∧ (∀ e oe, ops[e]? = some oe → makeA S.P oe = true → L e = true → e < p) ∧ QInv S ops envs heaps q1 L q p ∧ R S.P q C (heaps p) W
  size : a.tmps.size = nt
  env : ∀ t, VR C (valOf (envs 0) vals (lw ops L ops.size t) t) (a.tmps.getD t undef)
  ds : DR C ds a.defers

section
variable {S : St} {C0 : Ctx} {call : FuncId → List AVal → AHeap → Option (AVal × AHeap)} {nt : Nat} {ops : Array Oper} {ds : Ds} {envs : Nat → PT AVal} {heaps : Nat → AHeap} {vals : Nat → AVal}
theorem trace_env (ht : Trace S call nt ops ops.toList ds envs heaps vals) (t : Tmp) : ∀ i, i ≤ ops.size → evT (envs i) t = valOf (envs 0) vals (lw ops (fun _ => true) i t) t
  | 0, _ => rfl
  | i + 1, h => by
    have ih := trace_env ht t i (by omega)
    have ho : ops.toList[i]? = some ops[i] := by simp
    obtain ⟨hp, _⟩ := ht.step i _ ho
    have hd : dstA ops i = ops[i].dst := by unfold dstA; rw [Array.getElem?_eq_getElem (by omega)]; rfl
    unfold aput at hp
    rw [lw]
    split at hp
    · rename_i hn
      simp only [Option.some.injEq] at hp
      rw [← hp, if_neg (by rw [hd, hn]; rintro ⟨_, q⟩; cases q)]
      exact ih
    · rename_i d hn
      cases hlt : Nat.blt d nt with
      | false => rw [hlt] at hp; cases hp
      | true =>
        rw [hlt] at hp; simp only [cond_true, Option.some.injEq] at hp
        rw [← hp]
        by_cases e : d = t
        · subst e
          rw [if_pos ⟨rfl, by rw [hd, hn]⟩]
          unfold evT
          rw [PT.get_set, if_pos rfl]; rfl
        · rw [if_neg (by rw [hd, hn]; rintro ⟨_, q⟩; exact e (Option.some.inj q))]
          unfold evT at ih ⊢
          rw [PT.get_set, if_neg (fun q => e q.symm)]
          exact ih
theorem cls_cases (P : Program) (o : Oper) : (effA P o = true ∧ makeA P o = false ∧ readA P o = false) ∨ (effA P o = false ∧ makeA P o = true ∧ readA P o = false ∧ clsOf P o.op = .A) ∨ (effA P o = false ∧ makeA P o = false ∧ (clsOf P o.op = .P ∨ clsOf P o.op = .L)) := by
  unfold effA readA makeA
  cases clsOf P o.op
  · exact .inr (.inr ⟨rfl, rfl, .inl rfl⟩)
  · exact .inr (.inr ⟨rfl, rfl, .inr rfl⟩)
  · exact .inr (.inl ⟨rfl, rfl, rfl, rfl⟩)
  · exact .inl ⟨rfl, rfl, rfl⟩
theorem step_flat (ht : Trace S call nt ops ops.toList ds envs heaps vals) {i : Nat} {o : Oper} (ho : ops[i]? = some o) (he : effA S.P o = false) (hm : makeA S.P o = true → wantA ops (envs i) o ≠ some true) : heaps (i + 1) = heaps i := by
  obtain ⟨_, hs⟩ := ht.step i o (by simpa using ho)
  rcases hs with ⟨_, _, h3⟩ | ⟨hw, h3⟩
  · exact h3
  · rcases cls_cases S.P o with ⟨h1, _⟩ | ⟨_, h1, _⟩ | ⟨_, _, h1⟩
    · rw [he] at h1; cases h1
    · exact absurd hw (hm h1)
    · unfold stepA at h3
      rcases h1 with h1 | h1
      · rw [h1] at h3
        simp only [] at h3
        split at h3
        · simp only [Option.some.injEq, Prod.mk.injEq] at h3; exact h3.2.2.symm
        · cases h3
      · rw [h1] at h3
        simp only [] at h3
        split at h3
        · simp only [Option.some.injEq, Prod.mk.injEq] at h3; exact h3.2.2.symm
        · cases h3
theorem step_make (ht : Trace S call nt ops ops.toList ds envs heaps vals) {i : Nat} {o : Oper} (ho : ops[i]? = some o) (hm : makeA S.P o = true) (hw : wantA ops (envs i) o = some true) :
    ∃ x f, amk S.P (evN S (envs i) o) o = some (x, f) ∧ vals i = f (heaps i).next ∧ heaps (i + 1) = (heaps i).new x := by
  obtain ⟨_, hs⟩ := ht.step i o (by simpa using ho)
  rcases hs with ⟨hw2, _⟩ | ⟨_, h3⟩
  · rw [hw] at hw2; cases hw2
  · rcases cls_cases S.P o with ⟨_, h1, _⟩ | ⟨_, _, _, h1⟩ | ⟨_, h1, _⟩
    · rw [hm] at h1; cases h1
    · unfold stepA at h3
      rw [h1] at h3
      simp only [] at h3
      split at h3
      · rename_i x f hx
        simp only [Option.some.injEq, Prod.mk.injEq] at h3
        exact ⟨x, f, hx, h3.1.symm, h3.2.2.symm⟩
      · cases h3
    · rw [hm] at h1; cases h1
/-- On, over what makes blocks and has no other effect. -/
theorem adv (ht : Trace S call nt ops ops.toList ds envs heaps vals) {q1 L q : Nat → Bool} {p : Nat} {C : Ctx} {W : World} (hR : R S.P q C (heaps p) W) (hQ : QInv S ops envs heaps q1 L q p) :
    ∀ p2, p ≤ p2 → p2 ≤ ops.size → (∀ e oe, p ≤ e → e < p2 → ops[e]? = some oe → effA S.P oe = false) → (∀ e oe, p ≤ e → e < p2 → ops[e]? = some oe → makeA S.P oe = true → L e = false) →
      ∃ q', R S.P q' C (heaps p2) W ∧ QInv S ops envs heaps q1 L q' p2
  | 0, h, _, _, _ => by
    have : p = 0 := by omega
    subst this
    exact ⟨q, hR, hQ⟩
  | p2 + 1, h, hle, hE, hM => by
    by_cases e : p = p2 + 1
    · subst e; exact ⟨q, hR, hQ⟩
    · obtain ⟨q', hR', hQ'⟩ := adv ht hR hQ p2 (by omega) (by omega) (fun x ox h1 h2 => hE x ox h1 (by omega)) (fun x ox h1 h2 => hM x ox h1 (by omega))
      have ho : ops[p2]? = some ops[p2] := Array.getElem?_eq_getElem (by omega)
      have hne := hE p2 _ (by omega) (by omega) ho
      by_cases hmk : makeA S.P ops[p2] = true ∧ wantA ops (envs p2) ops[p2] = some true
      · obtain ⟨x, f, hx, hv, hh⟩ := step_make ht ho hmk.1 hmk.2
        have hL := hM p2 _ (by omega) (by omega) ho hmk.1
        refine ⟨_, by rw [hh]; exact hR'.reserve x, ?_⟩
        have hp2 : Pend S ops envs L (p2 + 1) p2 := ⟨_, ho, hmk.1, hmk.2, by omega, hL⟩
        have hcase : ∀ i, Pend S ops envs L (p2 + 1) i → i = p2 ∨ Pend S ops envs L p2 i := by
          rintro i ⟨o, h1, h2, h3, h4, h5⟩
          by_cases e : i = p2
          · exact .inl e
          · exact .inr ⟨o, h1, h2, h3, by omega, h5⟩
        have hup : ∀ i, Pend S ops envs L p2 i → Pend S ops envs L (p2 + 1) i := by
          rintro i ⟨o, h1, h2, h3, h4, h5⟩
          exact ⟨o, h1, h2, h3, by omega, h5⟩
        have hltn : ∀ i, Pend S ops envs L p2 i → (heaps i).next < (heaps p2).next := fun i hi => (hR'.res _ ((hQ'.iff _).2 (.inr ⟨i, hi, rfl⟩))).2
        refine ⟨fun b => ?_, fun i hi => ?_, fun i j hi hj hij => ?_⟩
        · by_cases e : b = (heaps p2).next
          · rw [if_pos e]
            exact ⟨fun _ => .inr ⟨p2, hp2, e⟩, fun _ => rfl⟩
          · rw [if_neg e, hQ'.iff b]
            constructor
            · rintro (h1 | ⟨i, h1, h2⟩)
              · exact .inl h1
              · exact .inr ⟨i, hup i h1, h2⟩
            · rintro (h1 | ⟨i, h1, h2⟩)
              · exact .inl h1
              · rcases hcase i h1 with rfl | h3
                · exact absurd h2 e
                · exact .inr ⟨i, h3, h2⟩
        · rcases hcase i hi with rfl | h3
          · cases hq : q1 (heaps i).next with
            | false => rfl
            | true =>
              have := (hR'.res _ ((hQ'.iff _).2 (.inl hq))).2
              omega
          · exact hQ'.fresh i h3
        · rcases hcase i hi with rfl | h3
          · rcases hcase j hj with rfl | h4
            · rfl
            · have := hltn j h4; omega
          · rcases hcase j hj with rfl | h4
            · have := hltn i h3; omega
            · exact hQ'.dist i j h3 h4 hij
      · have hh := step_flat ht ho hne (fun h1 h2 => hmk ⟨h1, h2⟩)
        refine ⟨q', by rw [hh]; exact hR', ?_⟩
        have hsame : ∀ i, Pend S ops envs L (p2 + 1) i ↔ Pend S ops envs L p2 i := by
          intro i
          constructor
          · rintro ⟨o, h1, h2, h3, h4, h5⟩
            have : i ≠ p2 := by
              rintro rfl
              rw [ho] at h1; cases h1
              exact hmk ⟨h2, h3⟩
            exact ⟨o, h1, h2, h3, by omega, h5⟩
          · rintro ⟨o, h1, h2, h3, h4, h5⟩
            exact ⟨o, h1, h2, h3, by omega, h5⟩
        exact ⟨fun b => by rw [hQ'.iff b]; simp only [hsame], fun i hi => hQ'.fresh i ((hsame i).1 hi), fun i j hi hj => hQ'.dist i j ((hsame i).1 hi) ((hsame j).1 hj)⟩
/-- What was made is out of the list of what is to be made. -/
theorem QInv.done {q1 L q : Nat → Bool} {p i : Nat} (h : QInv S ops envs heaps q1 L q p) (hi : Pend S ops envs L p i) : QInv S ops envs heaps q1 (setL L i) (fun j => if j = (heaps i).next then false else q j) p := by
  have hcase : ∀ j, Pend S ops envs (setL L i) p j → j ≠ i ∧ Pend S ops envs L p j := by
    rintro j ⟨o, h1, h2, h3, h4, h5⟩
    have hne : j ≠ i := by rintro rfl; unfold setL at h5; rw [if_pos rfl] at h5; cases h5
    refine ⟨hne, o, h1, h2, h3, h4, ?_⟩
    unfold setL at h5; rwa [if_neg hne] at h5
  refine ⟨fun b => ?_, fun j hj => h.fresh j (hcase j hj).2, fun j k hj hk => h.dist j k (hcase j hj).2 (hcase k hk).2⟩
  by_cases e : b = (heaps i).next
  · rw [if_pos e]
    constructor
    · intro q; cases q
    · rintro (h1 | ⟨j, h1, h2⟩)
      · rw [e, h.fresh i hi] at h1; cases h1
      · exact absurd (h.dist j i (hcase j h1).2 hi (h2.symm.trans e)) (hcase j h1).1
  · rw [if_neg e, h.iff b]
    constructor
    · rintro (h1 | ⟨j, ⟨o, k1, k2, k3, k4, k5⟩, h2⟩)
      · exact .inl h1
      · have hne : j ≠ i := by rintro rfl; exact e h2
        exact .inr ⟨j, ⟨o, k1, k2, k3, k4, by unfold setL; rw [if_neg hne]; exact k5⟩, h2⟩
    · rintro (h1 | ⟨j, h1, h2⟩)
      · exact .inl h1
      · exact .inr ⟨j, (hcase j h1).2, h2⟩
/-- Another one came up. -/
theorem QInv.other {q1 L q : Nat → Bool} {p i p' : Nat} {o : Oper} (h : QInv S ops envs heaps q1 L q p) (ho : ops[i]? = some o) (hn : makeA S.P o = true → wantA ops (envs i) o ≠ some true) (hp : p' = p ∨ (p = i ∧ p' = i + 1)) : QInv S ops envs heaps q1 (setL L i) q p' := by
  have hsame : ∀ j, Pend S ops envs (setL L i) p' j ↔ Pend S ops envs L p j := by
    intro j
    constructor
    · rintro ⟨o', h1, h2, h3, h4, h5⟩
      have hne : j ≠ i := by rintro rfl; rw [ho] at h1; cases h1; exact hn h2 h3
      exact ⟨o', h1, h2, h3, by omega, by unfold setL at h5; rwa [if_neg hne] at h5⟩
    · rintro ⟨o', h1, h2, h3, h4, h5⟩
      have hne : j ≠ i := by rintro rfl; rw [ho] at h1; cases h1; exact hn h2 h3
      exact ⟨o', h1, h2, h3, by omega, by unfold setL; rw [if_neg hne]; exact h5⟩
  exact ⟨fun b => by rw [h.iff b]; simp only [hsame], fun j hj => h.fresh j ((hsame j).1 hj), fun j k hj hk => h.dist j k ((hsame j).1 hj) ((hsame k).1 hk)⟩

theorem draw_step (hcal : Cal S.P C0 call) (hg : GlobOk S C0) (ht : Trace S call nt ops ops.toList ds envs heaps vals)
    (hclash : ∀ x y ox oy, x < y → ops[x]? = some ox → ops[y]? = some oy → clash S.P ops ox oy = true → ((Region.before ops).getD y 0).testBit x = true)
    (hearly : ∀ x y ox oy, x < y → ops[x]? = some ox → ops[y]? = some oy → effA S.P ox = true → makeA S.P oy = true → ((Region.before ops).getD y 0).testBit x = true)
    (hst : ∀ j o p, ops[j]? = some o → readA S.P o = true → wantA ops (envs j) o = some true → p ≤ ops.size → compat S.P ops j p → lop S.P (heaps p) (evN S (envs j) o) o = some (vals j))
    (hsa : ∀ j o p, ops[j]? = some o → makeA S.P o = true → wantA ops (envs j) o = some true → p ≤ ops.size → j < p → compat S.P ops j p → (heaps p).get (heaps j).next = (heaps (j + 1)).get (heaps j).next)
    {q1 L : Nat → Bool} {C : Ctx} {a : Act} {W : World} (h0 : C0.Le C) (hI : DInv S ops nt ds envs heaps vals q1 L C a W) {i : Nat} {o : Oper} (hr : isReady ops L i o)
    {K : Act → World → Prop} {Q : Exit → Act → World → Prop} (hK : ∀ C' a' W', C.Le C' → DInv S ops nt ds envs heaps vals q1 (setL L i) C' a' W' → K a' W') : wpOp S.P ops Q i K a W := by
  have ho := hr.1
  have hi : i < ops.size := (Array.getElem?_eq_some_iff.1 ho).1
  have hlist : ops.toList[i]? = some o := by simpa using ho
  obtain ⟨hput, hs⟩ := ht.step i o hlist
  obtain ⟨p, q, hp, hpe, hpm, hQ, hR⟩ := hI.heap
  -- what its temporaries hold
  have hnames : ∀ t, (namesA ops o).contains t = true → VR C (evT (envs i) t) (a.tmps.getD t undef) := by
    intro t htn
    have hlw := lw_ready hclash hI.closed hI.inside hr htn ops.size
    rw [show min ops.size i = i by omega] at hlw
    rw [trace_env ht t i (by omega), ← hlw]
    exact hI.env t
  have hev : ∀ x, VR C (evN S (envs i) o x) (a.eval x) := by
    intro x
    cases x with
    | tmp t =>
      simp only [evN]
      cases hany : (o.op.operands.toList.any (fun | .tmp u => Nat.beq u t | _ => false)) with
      | false => exact .top _
      | true =>
        refine hnames t ?_
        rw [List.any_eq_true] at hany
        obtain ⟨y, hy1, hy2⟩ := hany
        cases y with
        | tmp u =>
          have := Nat.eq_of_beq_eq_true hy2
          subst this
          unfold namesA Oper.looksAt
          rw [List.contains_iff_mem]
          refine List.mem_append.2 (.inr (List.mem_append.2 (.inl ?_)))
          exact List.mem_filterMap.2 ⟨_, hy1, rfl⟩
        | _ => cases hy2
    | const v => exact absV_VR C 8 v
    | global g => exact (hg g).mono h0
    | func g => exact .fn _ _ _ _ _ .nil .nil
  have hwant : ∀ b, wantA ops (envs i) o = some b → Region.wanted o (yielded ops a.tmps) = b := by
    intro b hb
    refine want_sound (C := C) hb fun j w q d v hgd hj hd hv => ?_
    have := hnames d (by
      unfold namesA Oper.looksAt
      rw [List.contains_iff_mem]
      refine List.mem_append.2 (.inr (List.mem_append.2 (.inr ?_)))
      rw [hgd]
      simp [hj, hd])
    unfold evT at this
    rw [hv] at this
    exact this
  have hbefore : ∀ e oe, e < i → ops[e]? = some oe → effA S.P oe = true → (effA S.P o = true ∨ makeA S.P o = true) → L e = true := by
    intro e oe hlt he hoe hor
    refine ready_anc hI.closed hI.inside hr ?_
    rcases hor with hor | hor
    · exact hclash e i oe o hlt he ho (by unfold clash; rw [hoe, hor]; simp)
    · exact hearly e i oe o hlt he ho hoe hor
  -- what is known behind it
  have after : ∀ (C' : Ctx) (v' : Value) (W' : World) (dl : List Deferred) (p' : Nat) (q' : Nat → Bool), C.Le C' → VR C' (vals i) v' → DR C' ds dl → p' ≤ ops.size → (∀ e oe, ops[e]? = some oe → effA S.P oe = true → (setL L i e = true ↔ e < p')) →
      (∀ e oe, ops[e]? = some oe → makeA S.P oe = true → setL L i e = true → e < p') → QInv S ops envs heaps q1 (setL L i) q' p' → R S.P q' C' (heaps p') W' →
      DInv S ops nt ds envs heaps vals q1 (setL L i) C' (({ a with defers := dl } : Act).put o.dst v') W' := by
    intro C' v' W' dl p' q' hC hv hd hq hqe hqm hQ' hR'
    refine ⟨hI.closed.step hI.inside hr, fun k hk => ?_, ⟨p', q', hq, hqe, hqm, hQ', hR'⟩, ?_, fun t => ?_, ?_⟩
    · unfold setL at hk
      by_cases e : k = i
      · subst e; exact hi
      · rw [if_neg e] at hk; exact hI.inside k hk
    · cases hdst : o.dst <;> simp [Act.put, hI.size]
    · by_cases hd1 : dstA ops i = some t
      · have hod : o.dst = some t := by unfold dstA at hd1; rw [ho] at hd1; exact hd1
        rw [lw_own hclash hI.closed hr hod ops.size hi, hod]
        have hlt : t < nt := by
          unfold aput at hput
          rw [hod] at hput
          cases hb : Nat.blt t nt with
          | false => simp only [hb] at hput; cases hput
          | true => exact Nat.blt_eq.mp hb
        have : t < a.tmps.size := by rw [hI.size]; exact hlt
        simpa [valOf, Act.put, this] using hv
      · rw [lw_other hd1]
        have := (hI.env t).mono hC
        cases hdst : o.dst with
        | none => exact this
        | some d =>
          have hne : d ≠ t := by rintro rfl; exact hd1 (by unfold dstA; rw [ho]; exact hdst)
          simpa [Act.put, Array.getElem?_setIfInBounds, hne] using this
    · cases hdst : o.dst <;> simpa [Act.put] using hd
  have keepE : effA S.P o = false → ∀ e oe, ops[e]? = some oe → effA S.P oe = true → (setL L i e = true ↔ e < p) := by
    intro hne e oe he hee
    have : e ≠ i := by rintro rfl; rw [ho] at he; cases he; rw [hne] at hee; cases hee
    unfold setL; rw [if_neg this]
    exact hpe e oe he hee
  have keepM : makeA S.P o = false → ∀ e oe, ops[e]? = some oe → makeA S.P oe = true → setL L i e = true → e < p := by
    intro hne e oe he hee hL
    have : e ≠ i := by rintro rfl; rw [ho] at he; cases he; rw [hne] at hee; cases hee
    unfold setL at hL; rw [if_neg this] at hL
    exact hpm e oe he hee hL
  have moveE : effA S.P o = true → ∃ q', R S.P q' C (heaps i) W ∧ QInv S ops envs heaps q1 L q' i ∧ (∀ e oe, ops[e]? = some oe → effA S.P oe = true → (setL L i e = true ↔ e < i + 1)) ∧ (∀ e oe, ops[e]? = some oe → makeA S.P oe = true → setL L i e = true → e < i + 1) := by
    intro hee
    have hpi : p ≤ i := by
      rcases Nat.lt_or_ge i p with r | r
      · have := (hpe i o ho hee).2 r
        rw [hr.2.1] at this; cases this
      · exact r
    obtain ⟨q', r1, r2⟩ := adv ht hR hQ i hpi (by omega) (fun e oe h1 h2 he => by
        cases hc : effA S.P oe with
        | false => rfl
        | true =>
          have := (hpe e oe he hc).1 (hbefore e oe h2 he hc (.inl hee))
          omega) (fun e oe h1 h2 he hm => by
        cases hL : L e with
        | false => rfl
        | true => have := hpm e oe he hm hL; omega)
    refine ⟨q', r1, r2, fun e oe he hoe => ?_, fun e oe he hoe hL => ?_⟩
    · unfold setL
      by_cases e1 : e = i
      · subst e1; simp
      · rw [if_neg e1]
        constructor
        · intro hL
          have := (hpe e oe he hoe).1 hL
          omega
        · intro hlt
          exact hbefore e oe (by omega) he hoe (.inl hee)
    · unfold setL at hL
      by_cases e1 : e = i
      · omega
      · rw [if_neg e1] at hL
        have := hpm e oe he hoe hL
        omega
  unfold wpOp
  rw [ho]
  simp only []
  have noMake : ∀ (hn : makeA S.P o = true → wantA ops (envs i) o ≠ some true), makeA S.P o = true ∨ makeA S.P o = false := fun _ => by cases makeA S.P o <;> simp
  rcases hs with ⟨hw, hv, hh⟩ | ⟨hw, hst2⟩
  · rw [hwant _ hw]
    simp only [Bool.false_eq_true, if_false]
    have hvv : VR C (vals i) undef := by rw [hv]; exact undef_VR C
    have hn : makeA S.P o = true → wantA ops (envs i) o ≠ some true := fun _ => by rw [hw]; exact fun q => by cases q
    rcases cls_cases S.P o with ⟨hc, hm, _⟩ | ⟨hc, hm, _, _⟩ | ⟨hc, hm, _⟩
    · obtain ⟨q', m1, m2, m3, m4⟩ := moveE hc
      exact hK C _ W (.refl C) (after C undef W a.defers (i + 1) q' (.refl C) hvv hI.ds (by omega) m3 m4 (m2.other ho hn (.inr ⟨rfl, rfl⟩)) (by rw [hh]; exact m1))
    · -- a maker that is not wanted: past it
      have hEb : ∀ e oe, p ≤ e → e < i + 1 → ops[e]? = some oe → effA S.P oe = false := by
        intro e oe h1 h2 he
        cases hce : effA S.P oe with
        | false => rfl
        | true =>
          have hne : e ≠ i := by rintro rfl; rw [ho] at he; cases he; rw [hc] at hce; cases hce
          have := (hpe e oe he hce).1 (hbefore e oe (by omega) he hce (.inr hm))
          omega
      have hMb : ∀ e oe, p ≤ e → e < i + 1 → ops[e]? = some oe → makeA S.P oe = true → L e = false := by
        intro e oe h1 h2 he hme
        cases hL : L e with
        | false => rfl
        | true => have := hpm e oe he hme hL; omega
      rcases Nat.lt_or_ge i p with r | r
      · refine hK C _ W (.refl C) (after C undef W a.defers p q (.refl C) hvv hI.ds hp (keepE hc) (fun e oe he hme hL => ?_) (hQ.other ho hn (.inl rfl)) hR)
        unfold setL at hL
        by_cases e1 : e = i
        · omega
        · rw [if_neg e1] at hL; exact hpm e oe he hme hL
      · obtain ⟨q', r1, r2⟩ := adv ht hR hQ (i + 1) (by omega) (by omega) hEb hMb
        refine hK C _ W (.refl C) (after C undef W a.defers (i + 1) q' (.refl C) hvv hI.ds (by omega) (fun e oe he hee => ?_) (fun e oe he hme hL => ?_) (r2.other ho hn (.inl rfl)) r1)
        · rw [keepE hc e oe he hee]
          constructor
          · intro h; omega
          · intro h
            rcases Nat.lt_or_ge e p with s | s
            · exact s
            · rw [hEb e oe s h he] at hee; cases hee
        · unfold setL at hL
          by_cases e1 : e = i
          · omega
          · rw [if_neg e1] at hL; have := hpm e oe he hme hL; omega
    · exact hK C _ W (.refl C) (after C undef W a.defers p q (.refl C) hvv hI.ds hp (keepE hc) (keepM hm) (hQ.other ho hn (.inl rfl)) hR)
  · rw [hwant _ hw]
    simp only [if_true]
    refine .inl ?_
    rcases cls_cases S.P o with ⟨hc, hm, _⟩ | ⟨hc, hm, _, hcl⟩ | ⟨hc, hm, hcl⟩
    · obtain ⟨q', m1, m2, m3, m4⟩ := moveE hc
      have hn : makeA S.P o = true → wantA ops (envs i) o ≠ some true := fun h => by rw [hm] at h; cases h
      exact stepA_sound hcal hst2 h0 m1 hev hI.ds fun C' v' W' dl hC hv hR' hd' => hK C' _ W' hC (after C' v' W' dl (i + 1) q' hC hv hd' (by omega) m3 m4 (m2.other ho hn (.inr ⟨rfl, rfl⟩)) hR')
    · -- a maker
      obtain ⟨x, f, hx, hvi, hh⟩ := step_make ht ho hm hw
      have hEb : ∀ e oe, p ≤ e → e < i + 1 → ops[e]? = some oe → effA S.P oe = false := by
        intro e oe h1 h2 he
        cases hce : effA S.P oe with
        | false => rfl
        | true =>
          have hne : e ≠ i := by rintro rfl; rw [ho] at he; cases he; rw [hc] at hce; cases hce
          have := (hpe e oe he hce).1 (hbefore e oe (by omega) he hce (.inr hm))
          omega
      have hMb : ∀ e oe, p ≤ e → e < i + 1 → ops[e]? = some oe → makeA S.P oe = true → L e = false := by
        intro e oe h1 h2 he hme
        cases hL : L e with
        | false => rfl
        | true => have := hpm e oe he hme hL; omega
      have hto : ∃ p' q', i < p' ∧ p' ≤ ops.size ∧ R S.P q' C (heaps p') W ∧ QInv S ops envs heaps q1 L q' p' ∧ (∀ e oe, ops[e]? = some oe → effA S.P oe = true → (L e = true ↔ e < p')) ∧ (∀ e oe, ops[e]? = some oe → makeA S.P oe = true → L e = true → e < p') := by
        rcases Nat.lt_or_ge i p with r | r
        · exact ⟨p, q, r, hp, hR, hQ, hpe, hpm⟩
        · obtain ⟨q', r1, r2⟩ := adv ht hR hQ (i + 1) (by omega) (by omega) hEb hMb
          refine ⟨i + 1, q', by omega, by omega, r1, r2, fun e oe he hee => ?_, fun e oe he hme hL => ?_⟩
          · rw [hpe e oe he hee]
            constructor
            · intro h; omega
            · intro h
              rcases Nat.lt_or_ge e p with s | s
              · exact s
              · rw [hEb e oe s h he] at hee; cases hee
          · have := hpm e oe he hme hL; omega
      obtain ⟨p', q', k1, k2, k3, k4, k5, k6⟩ := hto
      have hpend : Pend S ops envs L p' i := ⟨o, ho, hm, hw, k1, hr.2.1⟩
      have hqb : q' (heaps i).next = true := (k4.iff _).2 (.inr ⟨i, hpend, rfl⟩)
      have hget : (heaps p').get (heaps i).next = some x := by
        rw [hsa i o p' ho hm hw k2 k1 ⟨fun e oe he hee => by
          constructor
          · intro hb
            exact (k5 e oe he hee).1 (ready_anc hI.closed hI.inside hr hb)
          · intro hb
            rcases Nat.lt_or_ge e p' with s | s
            · have hL := (k5 e oe he hee).2 s
              have := hI.closed e oe he hL i hb
              rw [hr.2.1] at this; cases this
            · exact s, fun e oe he hme hb => k6 e oe he hme (ready_anc hI.closed hI.inside hr hb)⟩, hh, AHeap.get_new, if_pos rfl]
      obtain ⟨ob, rc, v', h1, h2, h3⟩ := amk_sound (P := S.P) hx hev
      obtain ⟨r1, r2⟩ := k3.late hqb hget h2
      unfold Oper.wp
      rw [h1]
      refine hK _ _ _ r2 (after _ _ _ a.defers p' _ r2 (by rw [hvi]; exact h3 _ _ _ (Ctx.bind_self _ _ _ _)) (hI.ds.mono r2) k2 (fun e oe he hee => ?_) (fun e oe he hme hL => ?_) (k4.done hpend) r1)
      · have : e ≠ i := by rintro rfl; rw [ho] at he; cases he; rw [hc] at hee; cases hee
        unfold setL; rw [if_neg this]
        exact k5 e oe he hee
      · unfold setL at hL
        by_cases e1 : e = i
        · omega
        · rw [if_neg e1] at hL; exact k6 e oe he hme hL
    · have hn : makeA S.P o = true → wantA ops (envs i) o ≠ some true := fun h => by rw [hm] at h; cases h
      have hst3 : stepA S call (evN S (envs i) o) ds (heaps p) o = some (vals i, ds, heaps p) := by
        rcases hcl with hcl | hcl
        · unfold stepA at hst2 ⊢
          rw [hcl] at hst2 ⊢
          simp only [] at hst2 ⊢
          split at hst2
          · rename_i v hv
            simp only [Option.some.injEq, Prod.mk.injEq] at hst2
            rw [hst2.1]
          · cases hst2
        · have hl := hst i o p ho (by unfold readA; rw [hcl]) hw hp ⟨fun e oe he hee => by
            constructor
            · intro hb
              exact (hpe e oe he hee).1 (ready_anc hI.closed hI.inside hr hb)
            · intro hb
              rcases Nat.lt_or_ge e p with s | s
              · have hL := (hpe e oe he hee).2 s
                have := hI.closed e oe he hL i hb
                rw [hr.2.1] at this; cases this
              · exact s, fun e oe he hme hb => hpm e oe he hme (ready_anc hI.closed hI.inside hr hb)⟩
          unfold stepA
          rw [hcl]
          simp only []
          rw [hl]
      exact stepA_sound hcal hst3 h0 hR hev hI.ds fun C' v' W' dl hC hv hR' hd' => hK C' _ W' hC (after C' v' W' dl p q hC hv hd' hp (keepE hc) (keepM hm) (hQ.other ho hn (.inl rfl)) hR')

/-- How many are still to come. -/
def left (L : Nat → Bool) : Nat → Nat
  | 0 => 0
  | n + 1 => left L n + if L n = true then 0 else 1
theorem left_set {L : Nat → Bool} {i : Nat} (hi : L i = false) : ∀ n, left (setL L i) n + (if i < n then 1 else 0) = left L n
  | 0 => rfl
  | n + 1 => by
    have ih := left_set hi n
    rw [left, left]
    by_cases e : n = i
    · subst e
      have : setL L n n = true := by unfold setL; rw [if_pos rfl]
      rw [this, hi]
      simp at ih ⊢; exact ih
    · have : setL L i n = L n := by unfold setL; rw [if_neg e]
      rw [this]
      by_cases hlt : i < n
      · have e1 : (if i < n then 1 else 0) = 1 := if_pos hlt
        have e2 : (if i < n + 1 then 1 else 0) = 1 := if_pos (by omega)
        rw [e1] at ih; rw [e2]; omega
      · have e1 : (if i < n then 1 else 0) = 0 := if_neg hlt
        have e2 : (if i < n + 1 then 1 else 0) = 0 := if_neg (by omega)
        rw [e1] at ih; rw [e2]; omega
theorem left_zero {L : Nat → Bool} : ∀ n, left L n = 0 → ∀ k, k < n → L k = true
  | 0, _, k, hk => by omega
  | n + 1, h, k, hk => by
    rw [left] at h
    by_cases e : k = n
    · subst e
      by_cases hL : L k = true
      · exact hL
      · rw [if_neg hL] at h; omega
    · exact left_zero n (by omega) k (by omega)
theorem left_least {L : Nat → Bool} : ∀ n, left L n ≠ 0 → ∃ m, m < n ∧ L m = false ∧ ∀ k, k < m → L k = true
  | 0, h => absurd rfl h
  | n + 1, h => by
    by_cases h1 : left L n = 0
    · refine ⟨n, by omega, ?_, fun k hk => left_zero n h1 k hk⟩
      cases hL : L n with
      | false => rfl
      | true => rw [left, h1, hL] at h; simp at h
    · obtain ⟨m, h2, h3, h4⟩ := left_least n h1
      exact ⟨m, by omega, h3, h4⟩
/-- The list of what has come up, as a function. -/
def Lof (listed : Array Bool) : Nat → Bool := fun k => listed.getD k false
theorem Lof_set {listed : Array Bool} {i : Nat} (hi : i < listed.size) : Lof (listed.setIfInBounds i true) = setL (Lof listed) i := by
  funext k
  unfold Lof setL
  rw [Array.getD_eq_getD_getElem?, Array.getElem?_setIfInBounds]
  by_cases e : k = i
  · subst e; simp [hi]
  · rw [if_neg e, if_neg (fun q => e q.symm)]
    show _ = listed.getD k false
    rw [Array.getD_eq_getD_getElem?]
theorem ready_iff {listed : Array Bool} (hs : listed.size = ops.size) {i : Nat} (h : i ∈ Region.ready .any ops listed) : ∃ o, isReady ops (Lof listed) i o := by
  unfold Region.ready at h
  rw [List.mem_filter, List.mem_range] at h
  obtain ⟨h1, h2⟩ := h
  simp only [Bool.and_eq_true, Bool.not_eq_true'] at h2
  obtain ⟨h3, h4⟩ := h2
  rw [Array.getElem?_eq_getElem h1] at h4
  simp only [Option.map_some, Option.getD_some] at h4
  refine ⟨ops[i], Array.getElem?_eq_getElem h1, ?_, fun e he hb => ?_⟩
  · unfold Lof
    rw [Array.getD_eq_getD_getElem?, Array.getElem?_eq_getElem (by omega)] at h3 ⊢
    exact h3
  · rw [Array.all_eq_true'] at h4
    have := h4 e (by simpa using he)
    simp only [hb, Bool.not_true, Bool.false_or] at this
    exact this
theorem ready_of {listed : Array Bool} (hs : listed.size = ops.size) {m : Nat} (hm : m < ops.size) (h1 : Lof listed m = false) (h2 : ∀ e ∈ ops[m].after.toList, Region.binds .any e = true → Lof listed e.on = true) : m ∈ Region.ready .any ops listed := by
  unfold Region.ready
  rw [List.mem_filter, List.mem_range]
  refine ⟨hm, ?_⟩
  simp only [Bool.and_eq_true, Bool.not_eq_true']
  constructor
  · unfold Lof at h1
    rw [Array.getD_eq_getD_getElem?, Array.getElem?_eq_getElem (by omega)] at h1 ⊢
    exact h1
  · rw [Array.getElem?_eq_getElem hm]
    simp only [Option.map_some, Option.getD_some]
    rw [Array.all_eq_true']
    intro e he
    cases hb : Region.binds .any e with
    | false => rfl
    | true => exact h2 e (by simpa using he) hb

theorem draw_all (hcal : Cal S.P C0 call) (hg : GlobOk S C0) (ht : Trace S call nt ops ops.toList ds envs heaps vals)
    (hclash : ∀ x y ox oy, x < y → ops[x]? = some ox → ops[y]? = some oy → clash S.P ops ox oy = true → ((Region.before ops).getD y 0).testBit x = true)
    (hearly : ∀ x y ox oy, x < y → ops[x]? = some ox → ops[y]? = some oy → effA S.P ox = true → makeA S.P oy = true → ((Region.before ops).getD y 0).testBit x = true)
    (hedge : ∀ j o, ops[j]? = some o → ∀ e ∈ o.after.toList, Region.binds .any e = true → e.on < j)
    (hst : ∀ j o p, ops[j]? = some o → readA S.P o = true → wantA ops (envs j) o = some true → p ≤ ops.size → compat S.P ops j p → lop S.P (heaps p) (evN S (envs j) o) o = some (vals j))
    (hsa : ∀ j o p, ops[j]? = some o → makeA S.P o = true → wantA ops (envs j) o = some true → p ≤ ops.size → j < p → compat S.P ops j p → (heaps p).get (heaps j).next = (heaps (j + 1)).get (heaps j).next)
    {q1 : Nat → Bool} {C1 : Ctx} {Q : Exit → Act → World → Prop} (hQ : ∀ C' a' W', C1.Le C' → R S.P q1 C' (heaps ops.size) W' → FRm C' nt (envs ops.size) a'.tmps → DR C' ds a'.defers → Q .normal a' W') :
    ∀ (n : Nat) (listed : Array Bool) (C : Ctx) (a : Act) (W : World), listed.size = ops.size → left (Lof listed) ops.size = n → C0.Le C → C1.Le C → DInv S ops nt ds envs heaps vals q1 (Lof listed) C a W → wpAny S.P .any ops Q n listed a W := by
  have fin : ∀ (listed : Array Bool) (C : Ctx) (a : Act) (W : World), left (Lof listed) ops.size = 0 → C1.Le C → DInv S ops nt ds envs heaps vals q1 (Lof listed) C a W → Q .normal a W := by
    intro listed C a W hl hC hI
    have hall := left_zero ops.size hl
    obtain ⟨p, q, hp, hpe, hpm, hQI, hR⟩ := hI.heap
    obtain ⟨q', hR', hQ'⟩ := adv ht hR hQI ops.size hp (Nat.le_refl _) (fun e oe h1 h2 he => by
      cases hc : effA S.P oe with
      | false => rfl
      | true => have := (hpe e oe he hc).1 (hall e h2); omega) (fun e oe h1 h2 he hm => by
      have := hpm e oe he hm (hall e h2); omega)
    have hqq : q' = q1 := by
      funext b
      have h1 := hQ'.iff b
      have h2 : ¬ ∃ i, Pend S ops envs (Lof listed) ops.size i ∧ b = (heaps i).next := by
        rintro ⟨i, ⟨o, _, _, _, h4, h5⟩, _⟩
        rw [hall i h4] at h5; cases h5
      cases hb : q' b <;> cases hb1 : q1 b
      · rfl
      · have := h1.2 (.inl hb1); rw [hb] at this; cases this
      · rcases h1.1 hb with h3 | h3
        · rw [hb1] at h3; cases h3
        · exact absurd h3 h2
      · rfl
    rw [hqq] at hR'
    have hlw : ∀ t m, m ≤ ops.size → lw ops (Lof listed) m t = lw ops (fun _ => true) m t := by
      intro t m
      induction m with
      | zero => intro _; rfl
      | succ m ih =>
        intro hm
        rw [lw, lw, hall m (by omega), ih (by omega)]
    refine hQ C a W hC hR' ⟨hI.size, fun t v hv => ?_⟩ hI.ds
    have := hI.env t
    rw [hlw t _ (Nat.le_refl _), ← trace_env ht t ops.size (Nat.le_refl _)] at this
    unfold evT at this
    rw [hv] at this
    exact this
  have none_ready : ∀ (listed : Array Bool), listed.size = ops.size → Region.ready .any ops listed = [] → left (Lof listed) ops.size = 0 := by
    intro listed hs hr
    rcases Nat.eq_zero_or_pos (left (Lof listed) ops.size) with q | q
    · exact q
    · exfalso
      obtain ⟨m, h1, h2, h3⟩ := left_least (L := Lof listed) ops.size (by omega)
      have := ready_of hs h1 h2 (fun e he hb => h3 e.on (hedge m _ (Array.getElem?_eq_getElem h1) e he hb))
      rw [hr] at this
      cases this
  intro n
  induction n with
  | zero =>
    intro listed C a W hs hl h0 h1 hI
    refine ⟨?_, fin listed C a W hl h1 hI⟩
    cases hr : Region.ready .any ops listed with
    | nil => rfl
    | cons i r =>
      obtain ⟨o, ho⟩ := ready_iff hs (show i ∈ Region.ready .any ops listed by rw [hr]; exact List.mem_cons_self)
      have := left_zero ops.size hl i (Array.getElem?_eq_some_iff.1 ho.1).1
      rw [ho.2.1] at this; cases this
  | succ n ih =>
    intro listed C a W hs hl h0 h1 hI
    refine ⟨fun hr => ?_, fun i hi => ?_⟩
    · have := none_ready listed hs hr; omega
    · obtain ⟨o, ho⟩ := ready_iff hs hi
      have hlt := (Array.getElem?_eq_some_iff.1 ho.1).1
      refine draw_step hcal hg ht hclash hearly hst hsa h0 hI ho fun C' a' W' hC hI' => ?_
      refine ih _ C' a' W' (by simpa using hs) ?_ (h0.trans hC) (h1.trans hC) (by rw [Lof_set (by omega)]; exact hI')
      rw [Lof_set (by omega)]
      have := left_set ho.2.1 ops.size
      rw [if_pos hlt] at this
      omega
end

section
variable {S : St} {q : Nat → Bool} {C0 C : Ctx} {H : AHeap} {W : World}
theorem drawOk_spec {P : Program} {ops : Array Oper} (h : drawOk P ops = true) : (∀ o ∈ ops.toList, defA o = false) ∧ (∀ j o, ops[j]? = some o → ∀ e ∈ o.after.toList, Region.binds .any e = true → e.on < j) ∧
    (∀ x y ox oy, x < y → ops[x]? = some ox → ops[y]? = some oy → clash P ops ox oy = true → ((Region.before ops).getD y 0).testBit x = true) ∧
    ∀ x y ox oy, x < y → ops[x]? = some ox → ops[y]? = some oy → effA P ox = true → makeA P oy = true → ((Region.before ops).getD y 0).testBit x = true := by
  unfold drawOk at h
  rw [List.all_eq_true] at h
  have key : ∀ j o, ops[j]? = some o → defA o = false ∧ (∀ e ∈ o.after.toList, Region.binds .any e = true → e.on < j) ∧ ∀ x ox, x < j → ops[x]? = some ox → (clash P ops ox o || (effA P ox && makeA P o)) = true → ((Region.before ops).getD j 0).testBit x = true := by
    intro j o ho
    have hj := (Array.getElem?_eq_some_iff.1 ho).1
    have := h j (List.mem_range.2 hj)
    rw [ho] at this
    simp only [Bool.and_eq_true, Bool.not_eq_true'] at this
    obtain ⟨⟨h1, h2⟩, h3⟩ := this
    rw [List.all_eq_true] at h2 h3
    refine ⟨h1, fun e he hb => ?_, fun x ox hx hox hc => ?_⟩
    · have := h2 e he
      rw [hb] at this
      simp only [Bool.not_true, Bool.false_or] at this
      exact Nat.blt_eq.mp this
    · have := h3 x (List.mem_range.2 hx)
      rw [hox] at this
      simp only [] at this
      rw [hc] at this
      simp only [Bool.not_true, Bool.false_or] at this
      exact this
  refine ⟨fun o ho => ?_, fun j o ho => (key j o ho).2.1, fun x y ox oy hxy hx hy hc => (key y oy hy).2.2 x ox hxy hx (by rw [hc]; rfl), fun x y ox oy hxy hx hy h1 h2 => (key y oy hy).2.2 x ox hxy hx (by rw [h1, h2]; simp)⟩
  obtain ⟨j, hj, rfl⟩ := List.getElem_of_mem ho
  exact (key j _ (by simp at hj; simp [hj])).1
theorem loose_spec {P : Program} {ops : Array Oper} (h : loose P ops = false) : ∀ x y ox oy, x < y → ops[x]? = some ox → ops[y]? = some oy →
    (((readA P ox = true ∧ effA P oy = true) ∨ (effA P ox = true ∧ readA P oy = true) ∨ (makeA P ox = true ∧ effA P oy = true) ∨ (makeA P ox = true ∧ readA P oy = true)) → ((Region.before ops).getD y 0).testBit x = true) ∧
    ¬ (readA P ox = true ∧ makeA P oy = true) := by
  intro x y ox oy hxy hx hy
  have key : ((((readA P ox && effA P oy) || (effA P ox && readA P oy) || (makeA P ox && effA P oy) || (makeA P ox && readA P oy)) && !((Region.before ops).getD y 0).testBit x) || (readA P ox && makeA P oy)) = false := by
    cases hk : ((((readA P ox && effA P oy) || (effA P ox && readA P oy) || (makeA P ox && effA P oy) || (makeA P ox && readA P oy)) && !((Region.before ops).getD y 0).testBit x) || (readA P ox && makeA P oy)) with
    | false => rfl
    | true =>
      exfalso
      have : loose P ops = true := by
        unfold loose
        rw [List.any_eq_true]
        refine ⟨y, List.mem_range.2 (Array.getElem?_eq_some_iff.1 hy).1, ?_⟩
        rw [hy]
        simp only []
        rw [List.any_eq_true]
        refine ⟨x, List.mem_range.2 hxy, ?_⟩
        rw [hx]
        exact hk
      rw [h] at this; cases this
  rw [Bool.or_eq_false_iff] at key
  refine ⟨fun hc => ?_, fun hc => by rw [hc.1, hc.2] at key; cases key.2⟩
  cases hb : ((Region.before ops).getD y 0).testBit x with
  | true => rfl
  | false =>
    have k1 := key.1
    rw [hb] at k1
    rcases hc with hc | hc | hc | hc <;> rw [hc.1, hc.2] at k1 <;> simp at k1
theorem start_inv {nt : Nat} {ops : Array Oper} {envs : Nat → PT AVal} {ds : Ds} {heaps : Nat → AHeap} {vals : Nat → AVal} {a : Act} (hR : R S.P q C (heaps 0) W) (hf : FRm C nt (envs 0) a.tmps) (hd : DR C ds a.defers) :
    DInv S ops nt ds envs heaps vals q (Lof (Array.replicate ops.size false)) C a W ∧ left (Lof (Array.replicate ops.size false)) ops.size = ops.size := by
  have hL : Lof (Array.replicate ops.size false) = fun _ => false := by
    funext k; unfold Lof; rw [Array.getD_eq_getD_getElem?, Array.getElem?_replicate]; split <;> rfl
  have hlw : ∀ m t, lw ops (fun _ => false) m t = none := by
    intro m t
    induction m with
    | zero => rfl
    | succ m ih => rw [lw, if_neg (fun q => by cases q.1), ih]
  have hleft : ∀ n, left (fun _ => false) n = n := by
    intro n
    induction n with
    | zero => rfl
    | succ n ih => rw [left, ih]; rfl
  have hnp : ∀ i, ¬ Pend S ops envs (fun _ => false) 0 i := by
    rintro i ⟨_, _, _, _, h, _⟩
    omega
  rw [hL]
  refine ⟨⟨(fun k o _ hk => by cases hk), (fun k hk => by cases hk), ⟨0, q, Nat.zero_le _, (fun e oe _ _ => by simp), (fun e oe _ _ h => by cases h), ⟨fun b => ⟨fun h => .inl h, ?_⟩, fun i hi => absurd hi (hnp i), fun i j hi => absurd hi (hnp i)⟩, hR⟩, hf.size, fun t => ?_, hd⟩, hleft _⟩
  · rintro (h | ⟨i, hi, _⟩)
    · exact h
    · exact absurd hi (hnp i)
  rw [hlw]
  show VR C (evT (envs 0) t) _
  unfold evT
  split
  · rename_i v hv; exact hf.rel t v hv
  · exact .top _
theorem imp_or {x y : Bool} (h : x = true → y = true) : (!x || y) = true := by
  cases x
  · rfl
  · exact h rfl
theorem compatB_of {ops : Array Oper} {j p : Nat} (h : compat S.P ops j p) : compatB S.P ops j p = true := by
  unfold compatB
  rw [List.all_eq_true]
  intro e he
  cases ho : ops[e]? with
  | none => rfl
  | some oe =>
    simp only []
    rw [Bool.and_eq_true]
    constructor
    · refine imp_or fun hee => ?_
      obtain ⟨h1, h2⟩ := h.1 e oe ho hee
      rw [Bool.and_eq_true]
      exact ⟨imp_or fun hb => Nat.blt_eq.mpr (h1 hb), imp_or fun hb => Nat.ble_eq_true_of_le (h2 hb)⟩
    · exact imp_or fun hme => imp_or fun hb => Nat.blt_eq.mpr (h.2 e oe ho hme hb)
theorem beqB_eq {x y : Option ABlk} (h : beqB x y = true) : x = y := by
  unfold beqB at h
  split at h
  · simp only [Bool.and_eq_true] at h
    rw [eq_of_beq h.1.1, eq_of_beq h.1.2, beqL_eq (beqV_eq 100) _ _ h.2]
  · rw [eq_of_beq h]
  · cases h
theorem stabB_spec {ops : Array Oper} {l : List Snap} (h : stabB S ops l = true) {j : Nat} {o : Oper} (ho : ops[j]? = some o) (hr : readA S.P o = true) (hw : wantA ops (l.getD j .no).env o = some true) {p : Nat} (hp : p ≤ ops.size) (hc : compat S.P ops j p) :
    lop S.P (l.getD p .no).heap (evN S (l.getD j .no).env o) o = some (l.getD j .no).val := by
  unfold stabB at h
  rw [List.all_eq_true] at h
  have := h j (List.mem_range.2 (Array.getElem?_eq_some_iff.1 ho).1)
  rw [ho] at this
  simp only [hr, Bool.not_true, Bool.false_or, hw, Bool.and_eq_true] at this
  have this := this.1
  rw [List.all_eq_true] at this
  have := this p (List.mem_range.2 (by omega))
  rw [compatB_of hc] at this
  simp only [Bool.not_true, Bool.false_or] at this
  unfold beqO at this
  split at this
  · rename_i a ha; rw [ha, beqV_eq 100 _ _ this]
  · cases this
theorem stabB_make {ops : Array Oper} {l : List Snap} (h : stabB S ops l = true) {j : Nat} {o : Oper} (ho : ops[j]? = some o) (hr : makeA S.P o = true) (hw : wantA ops (l.getD j .no).env o = some true) {p : Nat} (hp : p ≤ ops.size) (hjp : j < p) (hc : compat S.P ops j p) :
    (l.getD p .no).heap.get (l.getD j .no).heap.next = (l.getD (j + 1) .no).heap.get (l.getD j .no).heap.next := by
  unfold stabB at h
  rw [List.all_eq_true] at h
  have := h j (List.mem_range.2 (Array.getElem?_eq_some_iff.1 ho).1)
  rw [ho] at this
  simp only [hr, Bool.not_true, Bool.false_or, hw, Bool.and_eq_true] at this
  have this := this.2
  rw [List.all_eq_true] at this
  have := this p (List.mem_range.2 (by omega))
  rw [compatB_of hc, Nat.blt_eq.mpr hjp] at this
  simp only [Bool.and_self, Bool.not_true, Bool.false_or] at this
  exact beqB_eq this

theorem runDraw0_sound {call : FuncId → List AVal → AHeap → Option (AVal × AHeap)} (hcal : Cal S.P C0 call) (hg : GlobOk S C0) {nt : Nat} {ops : Array Oper} {env env' : PT AVal} {ds ds' : Ds} {H' : AHeap} {Q : Exit → Act → World → Prop} {a : Act}
    (h : runDraw0 S call nt ops env ds H = some (env', ds', H')) (h0 : C0.Le C) (hR : R S.P q C H W) (hf : FRm C nt env a.tmps) (hd : DR C ds a.defers)
    (hQ : ∀ (C' : Ctx) (a' : Act) (W' : World), C.Le C' → R S.P q C' H' W' → FRm C' nt env' a'.tmps → DR C' ds' a'.defers → Q .normal a' W') : wpAny S.P .any ops Q ops.size (Array.replicate ops.size false) a W := by
  unfold runDraw0 at h
  cases hc : drawOk S.P ops with
  | false => rw [hc] at h; cases h
  | true =>
    rw [hc] at h; simp only [cond_true] at h
    obtain ⟨h1, h2, h3, h4⟩ := drawOk_spec hc
    cases hlo : loose S.P ops with
    | true =>
      rw [hlo] at h; simp only [cond_true] at h
      split at h
      · cases h
      · rename_i l hl
        cases hsb : stabB S ops l with
        | false => rw [hsb] at h; cases h
        | true =>
          rw [hsb] at h; simp only [cond_true, Option.some.injEq, Prod.mk.injEq] at h
          obtain ⟨rfl, rfl, rfl⟩ := h
          obtain ⟨ht, e0, e1⟩ := trace_of_tr _ _ _ _ h1 hl
          obtain ⟨hI, hn⟩ := start_inv (S := S) (ops := ops) (nt := nt) (heaps := fun i => (l.getD i .no).heap) (vals := fun i => (l.getD i .no).val) (envs := fun i => (l.getD i .no).env) (a := a) (ds := ds) (by rw [e1]; exact hR) (by rw [e0]; exact hf) hd
          exact draw_all hcal hg ht h3 h4 h2 (fun j o p ho hr hw hp hcp => stabB_spec hsb ho hr hw hp hcp) (fun j o p ho hr hw hp hjp hcp => stabB_make hsb ho hr hw hp hjp hcp) (C1 := C) hQ ops.size _ C a W (by simp) hn h0 (.refl C) hI
    | false =>
      rw [hlo] at h; simp only [cond_false] at h
      obtain ⟨envs, heaps, vals, ht, e0, e1, e2, e3, e4⟩ := trace_of _ _ _ _ _ _ h1 h
      subst e0; subst e1; subst e4
      rw [Array.length_toList] at e2 e3
      subst e2; subst e3
      obtain ⟨hI, hn⟩ := start_inv (S := S) (ops := ops) (nt := nt) (heaps := heaps) (vals := vals) (envs := envs) (a := a) (ds := ds') hR hf hd
      -- what is there stays while blocks are made
      have stay : ∀ (x : Nat) (p : Nat), x ≤ p → p ≤ ops.size → (∀ e oe, x ≤ e → e < p → ops[e]? = some oe → effA S.P oe = false) → (heaps x).next ≤ (heaps p).next ∧ ∀ b, b < (heaps x).next → (heaps p).get b = (heaps x).get b := by
        intro x p
        induction p with
        | zero => intro h _ _; have : x = 0 := by omega
                  subst this; exact ⟨Nat.le_refl _, fun _ _ => rfl⟩
        | succ p ih =>
          intro hx hp hE
          by_cases e : x = p + 1
          · subst e; exact ⟨Nat.le_refl _, fun _ _ => rfl⟩
          · obtain ⟨i1, i2⟩ := ih (by omega) (by omega) (fun e oe a b => hE e oe a (by omega))
            have ho : ops[p]? = some ops[p] := Array.getElem?_eq_getElem (by omega)
            by_cases hmk : makeA S.P ops[p] = true ∧ wantA ops (envs p) ops[p] = some true
            · obtain ⟨y, f, _, _, hh⟩ := step_make ht ho hmk.1 hmk.2
              rw [hh]
              refine ⟨by show _ ≤ (heaps p).next + 1; omega, fun b hb => ?_⟩
              rw [AHeap.get_new, if_neg (by omega), i2 b hb]
            · rw [step_flat ht ho (hE p _ (by omega) (by omega) ho) (fun a b => hmk ⟨a, b⟩)]
              exact ⟨i1, i2⟩
      have nothing : ∀ (x p : Nat), x ≤ p → p ≤ ops.size → (∀ e oe, x ≤ e → e < p → ops[e]? = some oe → effA S.P oe = false ∧ makeA S.P oe = false) → heaps p = heaps x := by
        intro x p
        induction p with
        | zero => intro h _ _; have : x = 0 := by omega
                  subst this; rfl
        | succ p ih =>
          intro hx hp hE
          by_cases e : x = p + 1
          · subst e; rfl
          · have ho : ops[p]? = some ops[p] := Array.getElem?_eq_getElem (by omega)
            obtain ⟨e1, e2⟩ := hE p _ (by omega) (by omega) ho
            rw [step_flat ht ho e1 (fun a => by rw [e2] at a; cases a)]
            exact ih (by omega) (by omega) (fun e oe a b => hE e oe a (by omega))
      refine draw_all hcal hg ht h3 h4 h2 (fun j o p ho hr hw hp hcp => ?_) (fun j o p ho hm hw hp hjp hcp => ?_) (C1 := C) hQ ops.size _ C a W (by simp) hn h0 (.refl C) hI
      · -- what reads reads the same
        have hj := (Array.getElem?_eq_some_iff.1 ho).1
        have hnj : effA S.P o = false ∧ makeA S.P o = false := by
          rcases cls_cases S.P o with ⟨_, _, h9⟩ | ⟨_, _, h9, _⟩ | ⟨h8, h9, _⟩
          · rw [h9] at hr; cases hr
          · rw [h9] at hr; cases hr
          · exact ⟨h8, h9⟩
        have hh : heaps p = heaps j := by
          rcases Nat.lt_or_ge p j with r | r
          · symm
            refine nothing p j (by omega) (by omega) fun e oe ha hb he => ⟨?_, ?_⟩
            · cases hee : effA S.P oe with
              | false => rfl
              | true =>
                have := (hcp.1 e oe he hee).1 ((loose_spec hlo e j oe o hb he ho).1 (.inr (.inl ⟨hee, hr⟩)))
                omega
            · cases hee : makeA S.P oe with
              | false => rfl
              | true =>
                have := hcp.2 e oe he hee ((loose_spec hlo e j oe o hb he ho).1 (.inr (.inr (.inr ⟨hee, hr⟩))))
                omega
          · refine nothing j p r hp fun e oe ha hb he => ?_
            by_cases hej : e = j
            · subst hej; rw [ho] at he; cases he; exact hnj
            · refine ⟨?_, ?_⟩
              · cases hee : effA S.P oe with
                | false => rfl
                | true =>
                  have := (hcp.1 e oe he hee).2 ((loose_spec hlo j e o oe (by omega) ho he).1 (.inl ⟨hr, hee⟩))
                  omega
              · cases hee : makeA S.P oe with
                | false => rfl
                | true => exact absurd ⟨hr, hee⟩ (loose_spec hlo j e o oe (by omega) ho he).2
        rw [hh]
        obtain ⟨_, hs⟩ := ht.step j o (by simpa using ho)
        rcases hs with ⟨hw2, _⟩ | ⟨_, hs⟩
        · rw [hw] at hw2; cases hw2
        · unfold stepA at hs
          unfold readA at hr
          cases hcl : clsOf S.P o.op with
          | P => rw [hcl] at hr; cases hr
          | E => rw [hcl] at hr; cases hr
          | A => rw [hcl] at hr; cases hr
          | L =>
            rw [hcl] at hs
            simp only [] at hs
            split at hs
            · rename_i v hv
              simp only [Option.some.injEq, Prod.mk.injEq] at hs
              rw [hv, hs.1]
            · cases hs
      · obtain ⟨x, f, _, _, hh⟩ := step_make ht ho hm hw
        have hnx : (heaps j).next < (heaps (j + 1)).next := by rw [hh]; show _ < (heaps j).next + 1; omega
        refine (stay (j + 1) p (by omega) hp (fun e oe ha hb he => ?_)).2 _ hnx
        cases hee : effA S.P oe with
        | false => rfl
        | true =>
          have := (hcp.1 e oe he hee).2 ((loose_spec hlo j e o oe (by omega) ho he).1 (.inr (.inr (.inl ⟨hm, hee⟩))))
          omega

theorem permOk_spec {ops : Array Oper} {perm : List Nat} (h : permOk ops perm = true) : perm.length = ops.size ∧ (∀ i, i < ops.size → invOf perm i < ops.size ∧ perm[invOf perm i]? = some i) ∧ (∀ j, j < ops.size → ∃ i, perm[j]? = some i ∧ i < ops.size ∧ invOf perm i = j) ∧
    ∀ (i : Nat) (o : Oper), ops[i]? = some o → (∀ e ∈ o.after.toList, Region.binds .any e = true → e.on < ops.size) ∧ ∀ j w, o.guard = some (j, w) → j < ops.size := by
  unfold permOk at h
  rw [Bool.and_eq_true, List.all_eq_true] at h
  obtain ⟨h1, h2⟩ := h
  have h1 := Nat.eq_of_beq_eq_true h1
  have key : ∀ i, i < ops.size → perm.contains i = true ∧ invOf perm (perm.getD i 0) = i ∧ perm.getD i 0 < ops.size ∧ ∃ o, ops[i]? = some o ∧ (∀ e ∈ o.after.toList, Region.binds .any e = true → e.on < ops.size) ∧ ∀ j w, o.guard = some (j, w) → j < ops.size := by
    intro i hi
    have := h2 i (List.mem_range.2 hi)
    simp only [Bool.and_eq_true] at this
    obtain ⟨⟨⟨k1, k2⟩, k3⟩, k4⟩ := this
    refine ⟨k1, Nat.eq_of_beq_eq_true k2, Nat.blt_eq.mp k3, ops[i], Array.getElem?_eq_getElem hi, ?_⟩
    rw [Array.getElem?_eq_getElem hi] at k4
    simp only [Bool.and_eq_true] at k4
    obtain ⟨k5, k6⟩ := k4
    rw [List.all_eq_true] at k5
    refine ⟨fun e he hb => ?_, fun j w hg => ?_⟩
    · have := k5 e he
      rw [hb] at this
      simp only [Bool.not_true, Bool.false_or] at this
      exact Nat.blt_eq.mp this
    · rw [hg] at k6; exact Nat.blt_eq.mp k6
  refine ⟨h1, fun i hi => ?_, fun j hj => ?_, fun i o ho => ?_⟩
  · obtain ⟨k1, _⟩ := key i hi
    have hm : i ∈ perm := by simpa using k1
    have hlt := List.idxOf_lt_length_of_mem hm
    refine ⟨by unfold invOf; omega, ?_⟩
    unfold invOf
    rw [List.getElem?_eq_getElem hlt, List.getElem_idxOf]
  · obtain ⟨_, k2, k3, _⟩ := key j hj
    have : perm[j]? = some (perm.getD j 0) := by
      rw [List.getD_eq_getElem?_getD, List.getElem?_eq_getElem (by omega)]; rfl
    exact ⟨_, this, k3, k2⟩
  · obtain ⟨_, _, _, o', ho', k⟩ := key i (Array.getElem?_eq_some_iff.1 ho).1
    rw [ho] at ho'; cases ho'
    exact k
theorem filterMap_get {ops : Array Oper} {g : Oper → Oper} : ∀ (perm : List Nat), (∀ i ∈ perm, i < ops.size) → ∀ j : Nat, (perm.filterMap fun (i : Nat) => (ops[i]?).map g)[j]? = (perm[j]?).bind fun (i : Nat) => (ops[i]?).map g
  | [], _, j => by simp
  | i :: perm, h, j => by
    have hi := h i List.mem_cons_self
    rw [List.filterMap_cons, Array.getElem?_eq_getElem hi]
    simp only [Option.map_some]
    cases j with
    | zero => simp [Array.getElem?_eq_getElem hi]
    | succ j => simpa using filterMap_get perm (fun k hk => h k (List.mem_cons_of_mem _ hk)) j
theorem perm_get {ops : Array Oper} {perm : List Nat} (h : permOk ops perm = true) : (permOps ops perm).size = ops.size ∧ ∀ i o, ops[i]? = some o → (permOps ops perm)[invOf perm i]? = some (relab (invOf perm) o) := by
  obtain ⟨h1, h2, h3, h4⟩ := permOk_spec h
  have hlt : ∀ i ∈ perm, i < ops.size := by
    intro i hi
    obtain ⟨j, hj, rfl⟩ := List.getElem_of_mem hi
    obtain ⟨i, k1, k2, _⟩ := h3 j (by omega)
    rw [List.getElem?_eq_getElem hj] at k1
    cases k1; exact k2
  have hg := filterMap_get (g := relab (invOf perm)) perm hlt
  constructor
  · unfold permOps
    rw [List.size_toArray, ← h1]
    have : ∀ (l : List Nat), (∀ i ∈ l, i < ops.size) → (l.filterMap fun i => (ops[i]?).map (relab (invOf perm))).length = l.length := by
      intro l
      induction l with
      | nil => intro _; rfl
      | cons i l ih =>
        intro hl
        rw [List.filterMap_cons, Array.getElem?_eq_getElem (hl i List.mem_cons_self)]
        simp [ih (fun k hk => hl k (List.mem_cons_of_mem _ hk))]
    exact this perm hlt
  · intro i o ho
    obtain ⟨_, k2⟩ := h2 i (Array.getElem?_eq_some_iff.1 ho).1
    unfold permOps
    rw [List.getElem?_toArray, hg, k2]
    simp [ho]
theorem perm_wp {P : Program} {ops : Array Oper} {perm : List Nat} (h : permOk ops perm = true) {Q : Exit → Act → World → Prop} : ∀ (n : Nat) (L L' : Array Bool) (a : Act) (W : World), L.size = ops.size → L'.size = ops.size →
    (∀ i, i < ops.size → Lof L' (invOf perm i) = Lof L i) → wpAny P .any (permOps ops perm) Q n L' a W → wpAny P .any ops Q n L a W := by
  obtain ⟨h1, h2, h3, h4⟩ := permOk_spec h
  obtain ⟨g1, g2⟩ := perm_get h
  have fwd : ∀ (L L' : Array Bool), L.size = ops.size → L'.size = ops.size → (∀ i, i < ops.size → Lof L' (invOf perm i) = Lof L i) → ∀ i, i ∈ Region.ready .any ops L → invOf perm i ∈ Region.ready .any (permOps ops perm) L' := by
    intro L L' hs hs' hL i hi
    obtain ⟨o, ho, hl, he⟩ := ready_iff hs hi
    have hi' := (Array.getElem?_eq_some_iff.1 ho).1
    have hget := g2 i o ho
    have hlt := (Array.getElem?_eq_some_iff.1 hget).1
    refine ready_of (by omega) hlt (by rw [hL i hi']; exact hl) fun e he' hb => ?_
    rw [(Array.getElem?_eq_some_iff.1 hget).2] at he'
    have he2 : e ∈ ((o.after.toList.filter (Region.binds .any)).map fun e => ({ e with on := invOf perm e.on } : Edge)) := by simpa [relab] using he'
    obtain ⟨e0, k1, rfl⟩ := List.mem_map.1 he2
    obtain ⟨k2, k3⟩ := List.mem_filter.1 k1
    show Lof L' (invOf perm e0.on) = true
    rw [hL _ ((h4 i o ho).1 e0 k2 k3)]
    exact he e0 k2 k3
  have bwd : ∀ (L L' : Array Bool), L.size = ops.size → L'.size = ops.size → (∀ i, i < ops.size → Lof L' (invOf perm i) = Lof L i) → ∀ j, j ∈ Region.ready .any (permOps ops perm) L' → ∃ i, i ∈ Region.ready .any ops L := by
    intro L L' hs hs' hL j hj
    obtain ⟨o', ho', hl, he⟩ := ready_iff (by omega) hj
    have hj' := (Array.getElem?_eq_some_iff.1 ho').1
    obtain ⟨i, k1, k2, k3⟩ := h3 j (by omega)
    have ho : ops[i]? = some ops[i] := Array.getElem?_eq_getElem k2
    have hget := g2 i _ ho
    rw [k3, ho'] at hget
    cases hget
    refine ⟨i, ready_of hs k2 (by rw [← hL i k2, k3]; exact hl) fun e he' hb => ?_⟩
    have hon := (h4 i _ ho).1 e he' hb
    rw [← hL e.on hon]
    refine he ({ e with on := invOf perm e.on } : Edge) ?_ hb
    simp only [relab, List.toList_toArray]
    exact List.mem_map.2 ⟨e, List.mem_filter.2 ⟨he', hb⟩, rfl⟩
  intro n
  induction n with
  | zero =>
    intro L L' a W hs hs' hL hw
    refine ⟨?_, hw.2⟩
    cases hr : Region.ready .any ops L with
    | nil => rfl
    | cons i r =>
      have := fwd L L' hs hs' hL i (by rw [hr]; exact List.mem_cons_self)
      rw [hw.1] at this; cases this
  | succ n ih =>
    intro L L' a W hs hs' hL hw
    refine ⟨fun hr => hw.1 ?_, fun i hi => ?_⟩
    · cases hr' : Region.ready .any (permOps ops perm) L' with
      | nil => rfl
      | cons j r =>
        obtain ⟨i, hi⟩ := bwd L L' hs hs' hL j (by rw [hr']; exact List.mem_cons_self)
        rw [hr] at hi; cases hi
    · obtain ⟨o, ho, hl, he⟩ := ready_iff hs hi
      have hi' := (Array.getElem?_eq_some_iff.1 ho).1
      have hget := g2 i o ho
      have hlt := (h2 i hi').1
      have hw2 := hw.2 _ (fwd L L' hs hs' hL i hi)
      have hK : ∀ a' W', wpAny P .any (permOps ops perm) Q n (L'.setIfInBounds (invOf perm i) true) a' W' → wpAny P .any ops Q n (L.setIfInBounds i true) a' W' := by
        intro a' W' hh
        refine ih _ _ a' W' (by simpa using hs) (by simpa using hs') (fun k hk => ?_) hh
        rw [Lof_set (by omega), Lof_set (by omega)]
        unfold setL
        by_cases e : k = i
        · subst e; simp
        · have : invOf perm k ≠ invOf perm i := by
            intro e2
            have k1 := (h2 k hk).2
            rw [e2, (h2 i hi').2] at k1
            exact e (Option.some.inj k1).symm
          rw [if_neg e, if_neg this]
          exact hL k hk
      have hw3 := wpOp_mono hK hw2
      unfold wpOp at hw3 ⊢
      rw [hget] at hw3
      rw [ho]
      have hwant : Region.wanted (relab (invOf perm) o) (yielded (permOps ops perm) a.tmps) = Region.wanted o (yielded ops a.tmps) := by
        unfold Region.wanted
        cases hg : o.guard with
        | none => simp [relab, hg]
        | some jw =>
          obtain ⟨j, w⟩ := jw
          have hj := (h4 i o ho).2 j w hg
          have hgj := g2 j _ (Array.getElem?_eq_getElem hj)
          have : yielded (permOps ops perm) a.tmps (invOf perm j) = yielded ops a.tmps j := by
            unfold yielded
            rw [hgj, Array.getElem?_eq_getElem hj]; rfl
          simp only [relab, hg, this]
      simp only [] at hw3 ⊢
      rw [hwant] at hw3
      exact hw3
theorem runDraw_sound {call : FuncId → List AVal → AHeap → Option (AVal × AHeap)} (hcal : Cal S.P C0 call) (hg : GlobOk S C0) {nt : Nat} {ops : Array Oper} {env env' : PT AVal} {ds ds' : Ds} {H' : AHeap} {Q : Exit → Act → World → Prop} {a : Act}
    (h : runDraw S call nt ops env ds H = some (env', ds', H')) (h0 : C0.Le C) (hR : R S.P q C H W) (hf : FRm C nt env a.tmps) (hd : DR C ds a.defers)
    (hQ : ∀ (C' : Ctx) (a' : Act) (W' : World), C.Le C' → R S.P q C' H' W' → FRm C' nt env' a'.tmps → DR C' ds' a'.defers → Q .normal a' W') : wpAny S.P .any ops Q ops.size (Array.replicate ops.size false) a W := by
  unfold runDraw at h
  cases hc : drawOk S.P ops with
  | true =>
    rw [hc] at h; simp only [cond_true] at h
    exact runDraw0_sound hcal hg h h0 hR hf hd hQ
  | false =>
    rw [hc] at h; simp only [cond_false] at h
    generalize asapGo S.P ops ops.size [] = perm at h
    cases hp : permOk ops perm with
    | false => rw [hp] at h; cases h
    | true =>
      rw [hp] at h; simp only [cond_true] at h
      have hsz := (perm_get hp).1
      have := runDraw0_sound hcal hg h h0 hR hf hd hQ
      rw [hsz] at this
      refine perm_wp hp ops.size _ _ a W (by simp) (by simp) (fun i hi => ?_) this
      unfold Lof
      rw [Array.getD_eq_getD_getElem?, Array.getD_eq_getD_getElem?, Array.getElem?_replicate, Array.getElem?_replicate]
      have e : ∀ c : Prop, ∀ [Decidable c], (if c then some false else none : Option Bool).getD false = false := fun c _ => by split <;> rfl
      rw [e, e]
end
end Ab
end Go.Proofs.YthhnhbpmpdminaaGreatDoor
/-
Code over the abstract memory, run to its end: the model's code comes to what stands for it. Conditions: the given functions are sound, no function bears the name that the model knows by itself.
-/
namespace Go.Proofs.YthhnhbpmpdminaaGreatDoor
namespace Ab
set_option maxRecDepth 4096

/-- What is asked of the program and of what is given. -/
structure Fit (S : St) (C0 : Ctx) : Prop where
  mixed : S.P.follows .mixedOrders = true
  glob : GlobOk S C0
  ext : ∀ f g, S.ext f = some g → ∀ args H v H', g args H = some (v, H') → CallOk S.P C0 f args H v H'
  name : ∀ (f : Nat) (fn : Func), S.P.funcs[f]? = some fn → fn.body.isSome = true → (fn.name == "runtime.NumGoroutine") = false

def Post (S : St) (q : Nat → Bool) (C : Ctx) (nt : Nat) (x : AExit) (env' : PT AVal) (ds' : Ds) (H' : AHeap) (e : Exit) (a' : Act) (W' : World) : Prop :=
  e = x.toExit ∧ ∃ C', C.Le C' ∧ R S.P q C' H' W' ∧ FRm C' nt env' a'.tmps ∧ DR C' ds' a'.defers
theorem Post.up {S : St} {q : Nat → Bool} {C D : Ctx} (h : C.Le D) {nt : Nat} {x : AExit} {env' : PT AVal} {ds' : Ds} {H' : AHeap} {e : Exit} {a' : Act} {W' : World} (p : Post S q D nt x env' ds' H' e a' W') : Post S q C nt x env' ds' H' e a' W' := by
  obtain ⟨h1, C', h2, h3⟩ := p
  exact ⟨h1, C', h.trans h2, h3⟩
def CodeOk (S : St) (C0 : Ctx) (nt : Nat) (c : Code) (env : PT AVal) (ds : Ds) (H : AHeap) (x : AExit) (env' : PT AVal) (ds' : Ds) (H' : AHeap) : Prop :=
  ∀ (q : Nat → Bool) (C : Ctx) (W : World) (a : Act), C0.Le C → R S.P q C H W → FRm C nt env a.tmps → DR C ds a.defers → c.wp S.P (Post S q C nt x env' ds' H') a W

section
variable {S : St} {C0 : Ctx}
theorem seq_ok {nt : Nat} {c d : Code} {env env1 env' : PT AVal} {ds ds1 ds' : Ds} {H H1 H' : AHeap} {x : AExit} (h1 : CodeOk S C0 nt c env ds H .normal env1 ds1 H1) (h2 : CodeOk S C0 nt d env1 ds1 H1 x env' ds' H') :
    CodeOk S C0 nt (.seq c d) env ds H x env' ds' H' := by
  intro q C W a h0 hR hf hd
  refine wp_seq (wp_mono (h1 q C W a h0 hR hf hd) fun e a1 W1 ⟨he, C1, hC, hR1, hf1, hd1⟩ => ?_)
  subst he
  exact wp_mono (h2 q C1 W1 a1 (h0.trans hC) hR1 hf1 hd1) fun e a2 W2 p => p.up hC
theorem seq_out {nt : Nat} {c d : Code} {env env' : PT AVal} {ds ds' : Ds} {H H' : AHeap} {x : AExit} (h1 : CodeOk S C0 nt c env ds H x env' ds' H') (hx : x ≠ .normal) : CodeOk S C0 nt (.seq c d) env ds H x env' ds' H' := by
  intro q C W a h0 hR hf hd
  refine wp_seq (wp_mono (h1 q C W a h0 hR hf hd) fun e a1 W1 p => ?_)
  obtain ⟨he, p⟩ := p
  subst he
  cases x with
  | normal => exact absurd rfl hx
  | _ => exact ⟨rfl, p⟩
theorem loop_ok {nt : Nat} {b : Code} (I : Nat → PT AVal → Ds → AHeap → Prop) {x : AExit} {env' : PT AVal} {ds' : Ds} {H' : AHeap}
    (round : ∀ n env ds H, I n env ds H → (x ≠ .normal ∧ CodeOk S C0 nt b env ds H x env' ds' H') ∨ ∃ m env1 ds1 H1, m < n ∧ I m env1 ds1 H1 ∧ CodeOk S C0 nt b env ds H .normal env1 ds1 H1)
    {n : Nat} {env : PT AVal} {ds : Ds} {H : AHeap} (hI : I n env ds H) : CodeOk S C0 nt (.loop b) env ds H x env' ds' H' := by
  intro q C W a h0 hR hf hd
  refine wp_loop_ghost (fun n a W => ∃ env ds H C1, I n env ds H ∧ C.Le C1 ∧ R S.P q C1 H W ∧ FRm C1 nt env a.tmps ∧ DR C1 ds a.defers) n ⟨env, ds, H, C, hI, .refl C, hR, hf, hd⟩ ?_
  rintro n a W ⟨env, ds, H, C1, hI, hC1, hR, hf, hd⟩
  rcases round n env ds H hI with ⟨hx, hc⟩ | ⟨m, env1, ds1, H1, hm, hI1, hc⟩
  · refine wp_mono (hc q C1 W a (h0.trans hC1) hR hf hd) fun e a1 W1 ⟨he, C2, hC, p⟩ => ?_
    subst he
    cases x with
    | normal => exact absurd rfl hx
    | _ => exact ⟨rfl, C2, hC1.trans hC, p⟩
  · refine wp_mono (hc q C1 W a (h0.trans hC1) hR hf hd) fun e a1 W1 ⟨he, C2, hC, hR2, hf2, hd2⟩ => ?_
    subst he
    exact ⟨m, hm, env1, ds1, H1, C2, hI1, hC1.trans hC, hR2, hf2, hd2⟩

theorem FRm.start {C : Ctx} {args : List AVal} {args' : Array Value} (h : VRs C args args'.toList) {nt : Nat} (hn : args.length ≤ nt) : FRm C nt (PT.ofList args 0 .lf) (args' ++ Array.replicate (nt - args'.size) undef) := by
  have hl : args.length = args'.size := by have := h.length; simpa using this
  refine ⟨by simp; omega, fun t v ht => ?_⟩
  rw [PT.get_ofList] at ht
  by_cases hlt : 0 ≤ t ∧ t < 0 + args.length
  · rw [if_pos hlt] at ht
    rw [Nat.sub_zero] at ht
    obtain ⟨u, h1, h2⟩ := h.get ht
    have h3 : args'[t]? = some u := by simpa using h1
    rw [Array.getD_eq_getD_getElem?, Array.getElem?_append_left (by omega), h3]
    exact h2
  · rw [if_neg hlt, PT.get_lf] at ht; cases ht
def resOf (tmps : Array Value) : ResultVar → Sem Value
  | .tmp t => pure (tmps.getD t undef)
  | .cell a t => do loadVar t (← asAddr (tmps.getD a undef))
theorem ares1_sound {q : Nat → Bool} {C : Ctx} {H : AHeap} {W : World} (hR : R S.P q C H W) {nt : Nat} {env : PT AVal} {tmps : Array Value} (hf : FRm C nt env tmps) {r : ResultVar} {v : AVal} (h : ares1 S.P H env r = some v) :
    ∃ v', (resOf tmps r).run S.P W = .ok v' W ∧ VR C v v' := by
  cases r with
  | tmp t =>
    simp only [ares1] at h
    split at h
    · rename_i w hw
      simp only [Option.some.injEq] at h; subst h
      exact ⟨_, rfl, hf.rel t _ hw⟩
    · simp only [Option.some.injEq] at h; subst h
      exact ⟨_, rfl, .top _⟩
  | cell a t =>
    simp only [ares1] at h
    split at h
    · rename_i w hw
      have hv := hf.rel a _ hw
      obtain ⟨v', h1, h2⟩ := aload_sound hR h hv
      refine ⟨v', ?_, h2⟩
      show ((asAddr (tmps.getD a undef) >>= fun ad => loadVar t ad : Sem Value).run S.P W) = _
      generalize tmps.getD a undef = av at hv h1
      unfold aload at h
      cases hv with
      | ptr => exact h1
      | rp => exact h1
      | _ => (repeat' split at h) <;> first | cases h | (simp [ldCells] at *)
    · cases h
theorem mapM_list {q : Nat → Bool} {C : Ctx} {H : AHeap} {W : World} (hR : R S.P q C H W) {nt : Nat} {env : PT AVal} {tmps : Array Value} (hf : FRm C nt env tmps) : ∀ (l : List ResultVar) (r : List AVal), l.mapM (ares1 S.P H env) = some r →
    ∃ r', (l.mapM (resOf tmps)).run S.P W = .ok r' W ∧ VRs C r r'
  | [], r, h => by
    simp at h; subst h
    exact ⟨[], by simp, .nil⟩
  | x :: l, r, h => by
    obtain ⟨b, r1, h1, h2, rfl⟩ := mapM_cons_some h
    obtain ⟨v', h3, h4⟩ := ares1_sound hR hf h1
    obtain ⟨r', h5, h6⟩ := mapM_list hR hf l r1 h2
    refine ⟨v' :: r', ?_, .cons _ _ _ _ h4 h6⟩
    rw [List.mapM_cons, Sem.run_bind, h3, Result.andThen_ok, Sem.run_bind, h5]
    rfl
theorem ares_sound {q : Nat → Bool} {C : Ctx} {H : AHeap} {W : World} (hR : R S.P q C H W) {nt : Nat} {env : PT AVal} {tmps : Array Value} (hf : FRm C nt env tmps) {fn : Func} {v : AVal} (h : ares S.P H env fn = some v) :
    ∃ v', (results fn tmps).run S.P W = .ok v' W ∧ VR C v v' := by
  unfold ares at h
  cases hm : fn.results.toList.mapM (ares1 S.P H env) with
  | none => rw [hm] at h; cases h
  | some r =>
    obtain ⟨r', h1, h2⟩ := mapM_list hR hf _ _ hm
    have hrun : ∀ f : Array Value → Sem Value, ((fn.results.mapM (resOf tmps)) >>= f).run S.P W = (f r'.toArray).run S.P W := by
      intro f
      rw [Array.mapM_eq_mapM_toList, Sem.run_bind, Sem.run_map, h1]
      rfl
    have hres : results fn tmps = (fn.results.mapM (resOf tmps) >>= fun vs => pure (if h : vs.size = 1 then vs[0] else .tuple vs)) := rfl
    rw [hres, hrun]
    have hl := h2.length
    rw [hm] at h
    split at h
    · cases h
    · rename_i w hw
      simp only [Option.some.injEq] at h hw; subst h; subst hw
      cases h2 with
      | cons _ u _ _ hu ht =>
        cases ht
        exact ⟨u, rfl, hu⟩
    · rename_i l hne hw
      simp only [Option.some.injEq] at h hw; subst h; subst hw
      have hn1 : ¬ r'.toArray.size = 1 := by
        simp only [List.size_toArray]
        intro e
        rw [← hl] at e
        match r, e, hne with
        | [w], _, hne => exact hne w rfl
      refine ⟨.tuple r'.toArray, ?_, .tup _ _ (by simpa using h2)⟩
      rw [dif_neg hn1]; rfl

def DeferOk (S : St) (C0 : Ctx) (ds : Ds) (H H' : AHeap) : Prop :=
  ∀ (q : Nat → Bool) (C : Ctx) (W : World) (dl : List Deferred) (fn : Func) (tmps : Array Value) (R0 : Ending → World → Prop), C0.Le C → R S.P q C H W → DR C ds dl →
    (∀ (C' : Ctx) (W' : World), C.Le C' → R S.P q C' H' W' → Leaves S.P fn tmps R0 [] .returning W') → Leaves S.P fn tmps R0 dl .returning W
structure AllOk (S : St) (C0 : Ctx) (n : Nat) : Prop where
  code : ∀ nt c env ds H x env' ds' H', acode S nt n c env ds H = some (x, env', ds', H') → CodeOk S C0 nt c env ds H x env' ds' H'
  call : Cal S.P C0 (acall S n)
  defer : ∀ ds H H', adefer S n ds H = some H' → DeferOk S C0 ds H H'
theorem enter_run (F : Fit S C0) {f : FuncId} {fn : Func} {c : Code} (hf : S.P.funcs[f]? = some fn) (hb : fn.body = some c) (args : Array Value) (W : World) : (callFunc f args).run S.P W = .ok (.enter f args) W := by
  have h1 : fn.name ≠ "runtime.NumGoroutine" := by simpa using F.name f fn hf (by rw [hb]; rfl)
  simp [callFunc, hf, h1, hb]
theorem code_ok (F : Fit S C0) (n : Nat) (ih : ∀ m, m < n → AllOk S C0 m) : ∀ nt c env ds H x env' ds' H', acode S nt n c env ds H = some (x, env', ds', H') → CodeOk S C0 nt c env ds H x env' ds' H' := by
  intro nt c env ds H x env' ds' H' h
  cases n with
  | zero => simp [acode] at h
  | succ n =>
    have ihn := ih n (by omega)
    cases c with
    | skip =>
      simp only [acode, Option.some.injEq, Prod.mk.injEq] at h
      obtain ⟨rfl, rfl, rfl, rfl⟩ := h
      intro q C W a h0 hR hf hd
      exact wp_skip ⟨rfl, C, .refl C, hR, hf, hd⟩
    | label l =>
      simp only [acode, Option.some.injEq, Prod.mk.injEq] at h
      obtain ⟨rfl, rfl, rfl, rfl⟩ := h
      intro q C W a h0 hR hf hd
      exact wp_label ⟨rfl, C, .refl C, hR, hf, hd⟩
    | exit id =>
      simp only [acode, Option.some.injEq, Prod.mk.injEq] at h
      obtain ⟨rfl, rfl, rfl, rfl⟩ := h
      intro q C W a h0 hR hf hd
      exact wp_exit ⟨rfl, C, .refl C, hR, hf, hd⟩
    | goto l =>
      simp only [acode, Option.some.injEq, Prod.mk.injEq] at h
      obtain ⟨rfl, rfl, rfl, rfl⟩ := h
      intro q C W a h0 hR hf hd
      exact wp_goto ⟨rfl, C, .refl C, hR, hf, hd⟩
    | ret =>
      simp only [acode, Option.some.injEq, Prod.mk.injEq] at h
      obtain ⟨rfl, rfl, rfl, rfl⟩ := h
      intro q C W a h0 hR hf hd
      exact wp_ret ⟨rfl, C, .refl C, hR, hf, hd⟩
    | region id ops draw =>
      simp only [acode] at h
      cases draw with
      | false =>
        simp only [] at h
        split at h
        · rename_i e1 d1 H1 hr
          simp only [Option.some.injEq, Prod.mk.injEq] at h
          obtain ⟨rfl, rfl, rfl, rfl⟩ := h
          intro q C W a h0 hR hf hd
          refine wp_region ?_
          have := runSeq_sound ihn.call F.glob (Q := Post S q C nt .normal e1 d1 H1) ops.toList 0 C env ds H W a rfl hr h0 hR hf hd fun C' a' W' hC hR' hf' hd' => ⟨rfl, C', hC, hR', hf', hd'⟩
          rw [List.range_eq_range']
          rw [Array.length_toList] at this
          exact this
        · cases h
      | true =>
        simp only [] at h
        split at h
        · rename_i e1 d1 H1 hr
          simp only [Option.some.injEq, Prod.mk.injEq] at h
          obtain ⟨rfl, rfl, rfl, rfl⟩ := h
          intro q C W a h0 hR hf hd
          refine wp_region_any F.mixed ?_
          exact runDraw_sound ihn.call F.glob hr h0 (hR.drew _) hf hd fun C' a' W' hC hR' hf' hd' => ⟨rfl, C', hC, hR', hf', hd'⟩
        · cases h
    | seq a b =>
      simp only [acode] at h
      split at h
      · rename_i e1 d1 H1 h1
        exact seq_ok (ihn.code _ _ _ _ _ _ _ _ _ h1) (ihn.code _ _ _ _ _ _ _ _ _ h)
      · rename_i x1 e1 d1 H1 hne h1
        simp only [Option.some.injEq, Prod.mk.injEq] at h
        obtain ⟨rfl, rfl, rfl, rfl⟩ := h
        exact seq_out (ihn.code _ _ _ _ _ _ _ _ _ h1) (fun e => hne e)
      · cases h
    | cond c p q =>
      simp only [acode] at h
      have key : ∀ t, evO S env c = .bool t → CodeOk S C0 nt (if t then p else q) env ds H x env' ds' H' → CodeOk S C0 nt (.cond c p q) env ds H x env' ds' H' := by
        intro t ht hc q C W a h0 hR hf hd
        have hv := evO_sound F.glob h0 hf c
        rw [ht] at hv
        generalize hce : a.eval c = cv at hv
        cases hv
        exact wp_cond hce (hc q C W a h0 hR hf hd)
      split at h
      · rename_i ht; exact key true ht (ihn.code _ _ _ _ _ _ _ _ _ h)
      · rename_i ht; exact key false ht (ihn.code _ _ _ _ _ _ _ _ _ h)
      · cases h
    | block id b =>
      simp only [acode] at h
      have key : ∀ (x1 : AExit) e1 d1 H1, CodeOk S C0 nt b env ds H x1 e1 d1 H1 → ∀ y : AExit, (∀ q C a' W', Post S q C nt x1 e1 d1 H1 x1.toExit a' W' → Exit.inBlock id (Post S q C nt y e1 d1 H1) x1.toExit a' W') → CodeOk S C0 nt (.block id b) env ds H y e1 d1 H1 := by
        intro x1 e1 d1 H1 hc y hy q C W a h0 hR hf hd
        refine wp_block (wp_mono (hc q C W a h0 hR hf hd) fun e a' W' p => ?_)
        obtain ⟨he, p⟩ := p
        subst he
        exact hy q C a' W' ⟨rfl, p⟩
      split at h
      · rename_i i e1 d1 H1 h1
        have hc := ihn.code _ _ _ _ _ _ _ _ _ h1
        cases hb : Nat.beq i id with
        | true =>
          rw [hb] at h; simp only [cond_true, Option.some.injEq, Prod.mk.injEq] at h
          obtain ⟨rfl, rfl, rfl, rfl⟩ := h
          have := Nat.eq_of_beq_eq_true hb
          subst this
          refine key _ _ _ _ hc _ fun q C a' W' p => ?_
          show (if i = i then _ else _)
          rw [if_pos rfl]
          exact ⟨rfl, p.2⟩
        | false =>
          rw [hb] at h; simp only [cond_false, Option.some.injEq, Prod.mk.injEq] at h
          obtain ⟨rfl, rfl, rfl, rfl⟩ := h
          have hne : ¬ i = id := by rintro rfl; rw [Nat.beq_refl] at hb; cases hb
          refine key _ _ _ _ hc _ fun q C a' W' p => ?_
          show (if i = id then _ else _)
          rw [if_neg hne]
          exact p
      · rename_i x1 e1 d1 H1 hne h1
        simp only [Option.some.injEq, Prod.mk.injEq] at h
        obtain ⟨rfl, rfl, rfl, rfl⟩ := h
        refine key _ _ _ _ (ihn.code _ _ _ _ _ _ _ _ _ h1) _ fun q C a' W' p => ?_
        cases x1 with
        | exit i => exact (hne i rfl).elim
        | _ => exact p
      · cases h
    | loop b =>
      refine loop_ok (fun k env ds H => k ≤ n + 1 ∧ acode S nt k (.loop b) env ds H = some (x, env', ds', H')) ?_ ⟨Nat.le_refl _, h⟩
      rintro k env ds H ⟨hk, hl⟩
      cases k with
      | zero => simp [acode] at hl
      | succ k =>
        have ihk := ih k (by omega)
        simp only [acode] at hl
        split at hl
        · rename_i e1 d1 H1 h1
          exact .inr ⟨k, e1, d1, H1, by omega, ⟨by omega, hl⟩, ihk.code _ _ _ _ _ _ _ _ _ h1⟩
        · rename_i x1 e1 d1 H1 hne h1
          simp only [Option.some.injEq, Prod.mk.injEq] at hl
          obtain ⟨rfl, rfl, rfl, rfl⟩ := hl
          exact .inl ⟨fun e => hne e, ihk.code _ _ _ _ _ _ _ _ _ h1⟩
        · cases hl
    | scope b =>
      simp only [acode] at h
      split at h
      · cases h
      · rename_i x1 e1 d1 H1 hne h1
        simp only [Option.some.injEq, Prod.mk.injEq] at h
        obtain ⟨rfl, rfl, rfl, rfl⟩ := h
        intro q C W a h0 hR hf hd
        refine wp_scope_straight (wp_mono (ihn.code _ _ _ _ _ _ _ _ _ h1 q C W a h0 hR hf hd) fun e a' W' p => ?_)
        obtain ⟨he, p⟩ := p
        subst he
        cases x1 with
        | goto l => exact (hne l rfl).elim
        | _ => exact ⟨rfl, p⟩
      · cases h
    | _ => simp [acode] at h
theorem call_ok (F : Fit S C0) (n : Nat) (ih : ∀ m, m < n → AllOk S C0 m) : Cal S.P C0 (acall S n) := by
  intro f args H v H' h
  cases n with
  | zero => simp [acall] at h
  | succ n =>
    have ihn := ih n (by omega)
    simp only [acall] at h
    split at h
    · rename_i g hg
      exact F.ext f g hg _ _ _ _ h
    · split at h
      · cases h
      · rename_i fn hfn
        split at h
        · cases h
        · rename_i c hb
          cases hlen : Nat.ble args.length fn.ntmps with
          | false => rw [hlen] at h; cases h
          | true =>
            rw [hlen] at h; simp only [cond_true] at h
            have hlen := Nat.le_of_ble_eq_true hlen
            intro q C W args' h0 hR hargs
            refine .inr ⟨enter_run F hfn hb _ _, ?_⟩
            have hstart := FRm.start hargs hlen
            have key : ∀ (x : AExit) env ds H1 H2, (x = .normal ∨ x = .ret) → CodeOk S C0 fn.ntmps c (PT.ofList args 0 .lf) [] H x env ds H1 → adefer S n ds H1 = some H2 → ares S.P H2 env fn = some v → H2 = H' →
                Calls S.P f args' W fun e W' => ∃ v', e = .returned v' ∧ ∃ C', C.Le C' ∧ VR C' v v' ∧ R S.P q C' H' W' := by
              intro x env ds H1 H2 hx hc hdf hres heq
              subst heq
              refine calls_of_wp_defers hfn hb (wp_mono (hc q C W { tmps := args' ++ Array.replicate (fn.ntmps - args'.size) undef, defers := [] } h0 hR hstart .nil) fun e a' W' ⟨he, C1, hC1, hR1, hf1, hd1⟩ => ?_)
              have hl : Leaves S.P fn a'.tmps (fun e W' => ∃ v', e = .returned v' ∧ ∃ C', C.Le C' ∧ VR C' v v' ∧ R S.P q C' H2 W') a'.defers .returning W' := by
                refine ihn.defer ds H1 H2 hdf q C1 W' a'.defers fn a'.tmps _ (h0.trans hC1) hR1 hd1 fun C2 W2 hC2 hR2 => ?_
                obtain ⟨v', h1, h2⟩ := ares_sound hR2 (hf1.mono hC2) hres
                exact ⟨v', h1, v', rfl, C2, hC1.trans hC2, h2, hR2⟩
              subst he
              rcases hx with rfl | rfl
              · exact hl
              · exact hl
            split at h
            · rename_i env ds H1 hac
              split at h
              · rename_i H2 hdf
                split at h
                · rename_i w hres
                  simp only [Option.some.injEq, Prod.mk.injEq] at h
                  obtain ⟨rfl, rfl⟩ := h
                  exact key _ _ _ _ _ (.inl rfl) (ihn.code _ _ _ _ _ _ _ _ _ hac) hdf hres rfl
                · cases h
              · cases h
            · rename_i env ds H1 hac
              split at h
              · rename_i H2 hdf
                split at h
                · rename_i w hres
                  simp only [Option.some.injEq, Prod.mk.injEq] at h
                  obtain ⟨rfl, rfl⟩ := h
                  exact key _ _ _ _ _ (.inr rfl) (ihn.code _ _ _ _ _ _ _ _ _ hac) hdf hres rfl
                · cases h
              · cases h
            · cases h
theorem defer_ok (F : Fit S C0) (n : Nat) (ih : ∀ m, m < n → AllOk S C0 m) : ∀ ds H H', adefer S n ds H = some H' → DeferOk S C0 ds H H' := by
  intro ds H H' h
  cases ds with
  | nil =>
    have : H' = H := by unfold adefer at h; exact (Option.some.inj h).symm
    subst this
    intro q C W dl fn tmps R0 h0 hR hd hfin
    cases hd
    exact hfin C W (.refl C) hR
  | cons d ds =>
    obtain ⟨f, args, cap⟩ := d
    cases n with
    | zero => simp [adefer] at h
    | succ n =>
      have ihn := ih n (by omega)
      simp only [adefer] at h
      split at h
      · cases h
      · rename_i fn1 hfn
        split at h
        · cases h
        · rename_i c hb
          cases hlen : Nat.ble (args ++ cap).length fn1.ntmps with
          | false => rw [hlen] at h; cases h
          | true =>
            rw [hlen] at h; simp only [cond_true] at h
            have hlen := Nat.le_of_ble_eq_true hlen
            have key : ∀ (x : AExit) env H1 w, (x = .normal ∨ x = .ret) → CodeOk S C0 fn1.ntmps c (PT.ofList (args ++ cap) 0 .lf) [] H x env [] H1 → ares S.P H1 env fn1 = some w → adefer S n ds H1 = some H' → DeferOk S C0 ((f, args, cap) :: ds) H H' := by
              intro x env H1 w hx hc hres hrest q C W dl fn tmps R0 h0 hR hd hfin
              cases hd with
              | cons _ _ _ args' cap' _ dl ha hcp ht =>
                have hargs : VRs C (args ++ cap) (args' ++ cap').toList := by rw [Array.toList_append]; exact ha.append hcp
                refine leaves_cons (by simp) (f := f) (args := args' ++ cap') (by show (callFunc f (args' ++ cap')).run S.P W = _; exact enter_run F hfn hb _ _) ?_
                refine (callsD_of_wp (R := fun e W' => ∃ v' C1, e = .returned v' ∧ C.Le C1 ∧ R S.P q C1 H1 W') hfn hb (wp_mono (hc q C W { tmps := (args' ++ cap') ++ Array.replicate (fn1.ntmps - (args' ++ cap').size) undef, defers := [] } h0 hR (FRm.start hargs hlen) .nil) fun e a' W' ⟨he, C1, hC1, hR1, hf1, hd1⟩ => ?_)).mono fun e u' W' ⟨hu, v', C1, he, hC1, hR1⟩ => ?_
                · subst he
                  obtain ⟨v', h1, h2⟩ := ares_sound hR1 hf1 hres
                  have hde : a'.defers = [] := by
                    generalize a'.defers = q at hd1
                    cases hd1; rfl
                  rcases hx with rfl | rfl
                  · exact ⟨hde, v', h1, v', C1, rfl, hC1, hR1⟩
                  · exact ⟨hde, v', h1, v', C1, rfl, hC1, hR1⟩
                · subst he; subst hu
                  exact ihn.defer ds H1 H' hrest q C1 W' dl fn tmps R0 (h0.trans hC1) hR1 (ht.mono hC1) fun C2 W2 hC2 hR2 => hfin C2 W2 (hC1.trans hC2) hR2
            split at h
            · rename_i env H1 hac
              split at h
              · rename_i w hres
                exact key _ _ _ _ (.inl rfl) (ihn.code _ _ _ _ _ _ _ _ _ hac) hres h
              · cases h
            · rename_i env H1 hac
              split at h
              · rename_i w hres
                exact key _ _ _ _ (.inr rfl) (ihn.code _ _ _ _ _ _ _ _ _ hac) hres h
              · cases h
            · cases h
theorem all_ok (F : Fit S C0) (n : Nat) : AllOk S C0 n := by
  induction n using Nat.strongRecOn with
  | _ n ih => exact ⟨code_ok F n ih, call_ok F n ih, defer_ok F n ih⟩
end
end Ab
end Go.Proofs.YthhnhbpmpdminaaGreatDoor
/-
A closed call over the abstract memory, and what it tells of the model's call in whatever world. Conditions: the given functions are sound.
-/
namespace Go.Proofs.YthhnhbpmpdminaaGreatDoor
namespace Ab
open Go.RowKit
set_option maxRecDepth 4096

/-- A function without a body that looks at no memory. -/
def flatG (P : Program) (e : Array Value → Sem Value) : List AVal → AHeap → Option (AVal × AHeap) := fun args H =>
  match args.mapM (conc 8) with
  | none => none
  | some l => match pureRun P (e l.toArray) with
    | none => none
    | some r => some (absV 8 r, H)
/-- A function without a body that tells its operand. -/
def sameG : List AVal → AHeap → Option (AVal × AHeap) := fun args H =>
  match args with
  | [x] => some (x, H)
  | _ => none
section
variable {P : Program} {C0 : Ctx}
def ExtOk (P : Program) (C0 : Ctx) (f : FuncId) (g : List AVal → AHeap → Option (AVal × AHeap)) : Prop := ∀ args H v H', g args H = some (v, H') → CallOk P C0 f args H v H'
theorem flat_ok {f : FuncId} {fn : Func} {e : Array Value → Sem Value} (hf : P.funcs[f]? = some fn) (hname : (fn.name == "runtime.NumGoroutine") = false)
    (hb : fn.body.isNone = true) (hn : Extern.findNext fn = none) (he : Extern.find fn = some e) : ExtOk P C0 f (flatG P e) := by
  intro args H v H' h q C W args' h0 hR ha
  unfold flatG at h
  split at h
  · cases h
  · rename_i l hl
    split at h
    · cases h
    · rename_i r hr
      simp only [Option.some.injEq, Prod.mk.injEq] at h
      obtain ⟨rfl, rfl⟩ := h
      have e1 := concs_VR 8 _ _ _ ha hl
      have e2 : args' = l.toArray := by apply Array.ext'; rw [e1]
      refine .inl ⟨r, W, ?_, C, .refl C, absV_VR C 8 r, hR⟩
      rw [run_callFunc_extern hf hname hb hn he, e2, pureRun_run hr W]
      rfl
theorem same_ok {f : FuncId} {fn : Func} {e : Array Value → Sem Value} (hf : P.funcs[f]? = some fn) (hname : (fn.name == "runtime.NumGoroutine") = false)
    (hb : fn.body.isNone = true) (hn : Extern.findNext fn = none) (he : Extern.find fn = some e) (hs : ∀ x W, (e #[x]).run P W = .ok x W) : ExtOk P C0 f sameG := by
  intro args H v H' h q C W args' h0 hR ha
  unfold sameG at h
  split at h
  · rename_i x
    simp only [Option.some.injEq, Prod.mk.injEq] at h
    obtain ⟨rfl, rfl⟩ := h
    obtain ⟨al⟩ := args'
    cases ha with
    | cons _ y _ l' hx ht =>
      cases ht
      exact .inl ⟨y, W, by rw [run_callFunc_extern hf hname hb hn he, hs]; rfl, C, .refl C, hx, hR⟩
  · cases h
/-- The world as it is: nothing writes what is there. -/
def C0of (W : World) (n : Int := 0) (u : Nat → Value := fun _ => .nilFunc) : Ctx := ⟨fun _ => none, fun k => W.heap[k]?, W.os, W.tape, W.output, n, u⟩
theorem R_start (W : World) (n : Int) (u : Nat → Value) : R P (fun _ => false) (C0of W n u) AHeap.empty W :=
  ⟨rfl, rfl, rfl, fun _ _ h => h, fun _ _ _ _ _ h => (by cases h), fun _ _ _ _ _ _ _ h => (by cases h), fun _ h => absurd rfl h, fun _ h => (by cases h)⟩
theorem R_below {q : Nat → Bool} {C : Ctx} {H : AHeap} {W W' : World} {n : Int} {u : Nat → Value} (hC : (C0of W n u).Le C) (h : R P q C H W') : Below W.heap.size W W' := by
  have hk : ∀ k, k < W.heap.size → W'.heap[k]? = W.heap[k]? := fun k hk => by
    have h1 : (C0of W).imm k = some W.heap[k] := by simp [C0of, hk]
    rw [h.imm k _ (hC.imm k _ h1)]
    simp [hk]
  refine ⟨h.os.trans hC.os, h.tape.trans hC.tape, h.output.trans hC.output, ?_, hk⟩
  rcases Nat.eq_zero_or_pos W.heap.size with e | e
  · omega
  · have := hk (W.heap.size - 1) (by omega)
    rw [Array.getElem?_eq_getElem (show W.heap.size - 1 < W.heap.size by omega)] at this
    have := (Array.getElem?_eq_some_iff.1 this).1
    omega
theorem closed_callU {S : St} {W : World} {w : Int} {u : Nat → Value} (F : Fit S (C0of W w u)) {n : Nat} {f : FuncId} {fn : Func} (hf : S.P.funcs[f]? = some fn) (hb : fn.body.isSome = true) {b : Bool} {H : AHeap} (h : acall S n f [] .empty = some (.bool b, H)) :
    Calls S.P f #[] W fun e W' => e = .returned (.bool b) ∧ Below W.heap.size W W' := by
  obtain ⟨c, hc⟩ := Option.isSome_iff_exists.1 hb
  have hrun := enter_run F hf hc #[] W
  rcases (all_ok F n).call f [] .empty _ _ h (fun _ => false) (C0of W w u) W #[] (.refl _) (R_start W w u) .nil with ⟨v', W', h1, _⟩ | ⟨_, h2⟩
  · rw [hrun] at h1; cases h1
  · refine h2.mono fun e W' ⟨v', he, C', hC, hv, hR⟩ => ?_
    subst he
    cases hv
    exact ⟨rfl, R_below hC hR⟩
/-- A call over what the world has not written: what it comes to, and the new memory. -/
theorem closed_anyU {S : St} {W : World} {w : Int} {u : Nat → Value} (F : Fit S (C0of W w u)) {n : Nat} {f : FuncId} {fn : Func} (hf : S.P.funcs[f]? = some fn) (hb : fn.body.isSome = true) {args : List AVal} {args' : Array Value} (ha : VRs (C0of W w u) args args'.toList) {v : AVal} {H : AHeap}
    (h : acall S n f args .empty = some (v, H)) :
    Calls S.P f args' W fun e W' => ∃ v' C', e = .returned v' ∧ VR C' v v' ∧ R S.P (fun _ => false) C' H W' ∧ Below W.heap.size W W' := by
  obtain ⟨c, hc⟩ := Option.isSome_iff_exists.1 hb
  have hrun := enter_run F hf hc args' W
  rcases (all_ok F n).call f args .empty _ _ h (fun _ => false) (C0of W w u) W args' (.refl _) (R_start W w u) ha with ⟨v', W', h1, _⟩ | ⟨_, h2⟩
  · rw [hrun] at h1; cases h1
  · exact h2.mono fun e W' ⟨v', he, C', hC, hv, hR⟩ => ⟨v', C', he, hv, hR, R_below hC hR⟩
theorem closed_call {S : St} {W : World} (F : Fit S (C0of W)) {n : Nat} {f : FuncId} {fn : Func} (hf : S.P.funcs[f]? = some fn) (hb : fn.body.isSome = true) {b : Bool} {H : AHeap} (h : acall S n f [] .empty = some (.bool b, H)) :
    Calls S.P f #[] W fun e W' => e = .returned (.bool b) ∧ Below W.heap.size W W' := closed_callU F hf hb h
theorem closed_any {S : St} {W : World} (F : Fit S (C0of W)) {n : Nat} {f : FuncId} {fn : Func} (hf : S.P.funcs[f]? = some fn) (hb : fn.body.isSome = true) {args : List AVal} {args' : Array Value} (ha : VRs (C0of W) args args'.toList) {v : AVal} {H : AHeap}
    (h : acall S n f args .empty = some (v, H)) :
    Calls S.P f args' W fun e W' => ∃ v' C', e = .returned v' ∧ VR C' v v' ∧ R S.P (fun _ => false) C' H W' ∧ Below W.heap.size W W' := closed_anyU F hf hb ha h
/-- Nothing is given. -/
theorem bare_fit {S : St} (h1 : S.P.follows .mixedOrders = true) (h2 : S.ext = fun _ => none) (h3 : S.glob = fun _ => .top) (h4 : (S.P.funcs.all fun fn => !(fn.body.isSome && fn.name == "runtime.NumGoroutine")) = true) (C : Ctx) : Fit S C := by
  refine ⟨h1, fun g => ?_, fun f g hg => ?_, fun f fn hf hb => ?_⟩
  · rw [h3]; exact .top _
  · rw [h2] at hg; cases hg
  · have h := Array.all_eq_true'.1 h4 fn (Array.mem_of_getElem? hf)
    rw [hb] at h
    simpa using h
end
end Ab
end Go.Proofs.YthhnhbpmpdminaaGreatDoor
