/-
  NARROWER THAN 'FOR EVERY INPUT', by the rows' own cells (each row's printed sentence says how): SexpParse: laid · SexpPrint: loops, laid · SexpBack: loops, laid · SexpBlanks: loops, laid · SexpDepth: laid · SexpPrefix: laid.
  DERIVED. THE GIVEN ROWS OF THIS SEAT. 6 by the template 'for every input the law returns true; each argument reads behind the call as it read before'; 0 by the template 'total and deterministic' (their statements: YtdhfjaekhibaaaaDoorTotals.lean).
  GIVEN WITH THE SEED: the statements are not yours to turn. If you find one false, say at which input.
  Laid BY PROGRAM, IN A SANDBOX (cutbox-rows.mjs): the forced cells as the released guide's own fill.sh prints them over the translation 5bee92f1d59c0d83… (all of the seat's roots in one cut). By AI agents, Wed Nov 11 2026. No macro, syntax, notation, axiom, sorry.
-/
import Derived.Test.YtdhfjaekhibaaaaDoorChecked
import GoSem.Claim
import GoSem.ClaimJoined
import GoSem.ClaimMapViews
import Derived.JoinedTies
import Derived.KernelRfl
namespace Go.Proofs.YtdhfjaekhibaaaaDoor
/- THE CELL 'sum', in the pinned program and in every row, IS THE sha256 OF THE DUMP (.gsa) THAT YtdhfjaekhibaaaaDoorProg.lean LOADS. Nothing in Lean hashes anything: it is a label: what it is worth is what the hold of that sum in a sandbox is worth. -/
noncomputable def Tryd.pinned : Pinned := { name := "ytdhfjaekhibaaaadoor", sum := "5bee92f1d59c0d83f0edf140b9dbb8667048726eceb66822834c497566dda3c8", checked := Tryd.checked }
namespace Rows
def none {H : Type} : Left H := { results := [], args := [] }

/- WHAT THE LISTED PACKAGE-LEVEL VARIABLES READ AS WHEN THE CALL BEGINS. Each datum BY PROGRAM (the guide's laid-datum.mjs) off the statement by which the dump's own 'gosem.cut.vars' lays the variable. In a bare row this is a premise. The card (YtdhfjaekhibaaaaDoorCards.lean) ties it to the program's text. -/
def laid_errors_errorType {H : Type} : DataW H := .iface "internal/reflectlite.rtype" (.agg [.ptr (.lit (.string [101, 114, 114, 111, 114]))])

/-- 'plaitlaw2.SexpParse': WHATEVER THE INPUT: true; the input reads as it did. -/
def sexpParseSpec : ChangeSpec := { name := "sexpParse", fn := fun _ => fun
  | [d] => { results := [.lit (.bool true)], args := [d] }
  | _ => none }
def sexpParseRow : OpenClaim := { program := "ytdhfjaekhibaaaadoor", sum := "5bee92f1d59c0d83f0edf140b9dbb8667048726eceb66822834c497566dda3c8", func := "plait/plaitlaw2.SexpParse", spec := "sexpParse", inPlace := ["internal/bytealg.IndexByteString", "internal/abi.NoEscape", "internal/reflectlite.ValueOf", "(internal/reflectlite.Value).Type", "(internal/reflectlite.Value).IsNil", "internal/reflectlite.TypeOf", "(internal/reflectlite.Value).Elem", "(internal/reflectlite.Value).Set"], unfollowed := true, recurses := true, named := ["errors.errorType"], apart := false, laid := [("errors.errorType", laid_errors_errorType)] }
def SexpParseSaid : Prop := sexpParseRow.holds Tryd.pinned (OpenSpec.ofChange sexpParseSpec)

/-- ITS FALSE NEIGHBOUR: 'it returns false'. Refute it at one input. -/
def sexpParseWrong : ChangeSpec := { name := "sexpParse", fn := fun _ => fun
  | [d] => { results := [.lit (.bool false)], args := [d] }
  | _ => none }
def SexpParseWrongFalsely : Prop := sexpParseRow.holds Tryd.pinned (OpenSpec.ofChange sexpParseWrong)

/-- 'plaitlaw2.SexpPrint': WHATEVER THE INPUT: true; the input reads as it did. -/
def sexpPrintSpec : ChangeSpec := { name := "sexpPrint", fn := fun _ => fun
  | [d1, d2] => { results := [.lit (.bool true)], args := [d1, d2] }
  | _ => none }
def sexpPrintRow : OpenClaim := { program := "ytdhfjaekhibaaaadoor", sum := "5bee92f1d59c0d83f0edf140b9dbb8667048726eceb66822834c497566dda3c8", func := "plait/plaitlaw2.SexpPrint", spec := "sexpPrint", inPlace := ["internal/bytealg.IndexByteString", "internal/abi.NoEscape", "internal/reflectlite.ValueOf", "(internal/reflectlite.Value).Type", "(internal/reflectlite.Value).IsNil", "internal/reflectlite.TypeOf", "(internal/reflectlite.Value).Elem", "(internal/reflectlite.Value).Set"], unfollowed := true, recurses := true, named := ["errors.errorType"], loops := true, apart := false, laid := [("errors.errorType", laid_errors_errorType)] }
def SexpPrintSaid : Prop := sexpPrintRow.holds Tryd.pinned (OpenSpec.ofChange sexpPrintSpec)

/-- ITS FALSE NEIGHBOUR: 'it returns false'. Refute it at one input. -/
def sexpPrintWrong : ChangeSpec := { name := "sexpPrint", fn := fun _ => fun
  | [d1, d2] => { results := [.lit (.bool false)], args := [d1, d2] }
  | _ => none }
def SexpPrintWrongFalsely : Prop := sexpPrintRow.holds Tryd.pinned (OpenSpec.ofChange sexpPrintWrong)

/-- 'plaitlaw2.SexpBack': WHATEVER THE INPUT: true; the input reads as it did. -/
def sexpBackSpec : ChangeSpec := { name := "sexpBack", fn := fun _ => fun
  | [d1, d2] => { results := [.lit (.bool true)], args := [d1, d2] }
  | _ => none }
def sexpBackRow : OpenClaim := { program := "ytdhfjaekhibaaaadoor", sum := "5bee92f1d59c0d83f0edf140b9dbb8667048726eceb66822834c497566dda3c8", func := "plait/plaitlaw2.SexpBack", spec := "sexpBack", inPlace := ["internal/bytealg.IndexByteString", "internal/abi.NoEscape", "internal/reflectlite.ValueOf", "(internal/reflectlite.Value).Type", "(internal/reflectlite.Value).IsNil", "internal/reflectlite.TypeOf", "(internal/reflectlite.Value).Elem", "(internal/reflectlite.Value).Set"], unfollowed := true, recurses := true, named := ["errors.errorType"], loops := true, apart := false, laid := [("errors.errorType", laid_errors_errorType)] }
def SexpBackSaid : Prop := sexpBackRow.holds Tryd.pinned (OpenSpec.ofChange sexpBackSpec)

/-- ITS FALSE NEIGHBOUR: 'it returns false'. Refute it at one input. -/
def sexpBackWrong : ChangeSpec := { name := "sexpBack", fn := fun _ => fun
  | [d1, d2] => { results := [.lit (.bool false)], args := [d1, d2] }
  | _ => none }
def SexpBackWrongFalsely : Prop := sexpBackRow.holds Tryd.pinned (OpenSpec.ofChange sexpBackWrong)

/-- 'plaitlaw2.SexpBlanks': WHATEVER THE INPUT: true; the input reads as it did. -/
def sexpBlanksSpec : ChangeSpec := { name := "sexpBlanks", fn := fun _ => fun
  | [d1, d2] => { results := [.lit (.bool true)], args := [d1, d2] }
  | _ => none }
def sexpBlanksRow : OpenClaim := { program := "ytdhfjaekhibaaaadoor", sum := "5bee92f1d59c0d83f0edf140b9dbb8667048726eceb66822834c497566dda3c8", func := "plait/plaitlaw2.SexpBlanks", spec := "sexpBlanks", inPlace := ["internal/bytealg.IndexByteString", "internal/abi.NoEscape", "internal/reflectlite.ValueOf", "(internal/reflectlite.Value).Type", "(internal/reflectlite.Value).IsNil", "internal/reflectlite.TypeOf", "(internal/reflectlite.Value).Elem", "(internal/reflectlite.Value).Set"], unfollowed := true, recurses := true, named := ["errors.errorType"], loops := true, apart := false, laid := [("errors.errorType", laid_errors_errorType)] }
def SexpBlanksSaid : Prop := sexpBlanksRow.holds Tryd.pinned (OpenSpec.ofChange sexpBlanksSpec)

/-- ITS FALSE NEIGHBOUR: 'it returns false'. Refute it at one input. -/
def sexpBlanksWrong : ChangeSpec := { name := "sexpBlanks", fn := fun _ => fun
  | [d1, d2] => { results := [.lit (.bool false)], args := [d1, d2] }
  | _ => none }
def SexpBlanksWrongFalsely : Prop := sexpBlanksRow.holds Tryd.pinned (OpenSpec.ofChange sexpBlanksWrong)

/-- 'plaitlaw2.SexpDepth': WHATEVER THE INPUT: true; the input reads as it did. -/
def sexpDepthSpec : ChangeSpec := { name := "sexpDepth", fn := fun _ => fun
  | [d] => { results := [.lit (.bool true)], args := [d] }
  | _ => none }
def sexpDepthRow : OpenClaim := { program := "ytdhfjaekhibaaaadoor", sum := "5bee92f1d59c0d83f0edf140b9dbb8667048726eceb66822834c497566dda3c8", func := "plait/plaitlaw2.SexpDepth", spec := "sexpDepth", inPlace := ["internal/bytealg.IndexByteString", "internal/abi.NoEscape", "internal/reflectlite.ValueOf", "(internal/reflectlite.Value).Type", "(internal/reflectlite.Value).IsNil", "internal/reflectlite.TypeOf", "(internal/reflectlite.Value).Elem", "(internal/reflectlite.Value).Set"], unfollowed := true, recurses := true, named := ["errors.errorType"], apart := false, laid := [("errors.errorType", laid_errors_errorType)] }
def SexpDepthSaid : Prop := sexpDepthRow.holds Tryd.pinned (OpenSpec.ofChange sexpDepthSpec)

/-- ITS FALSE NEIGHBOUR: 'it returns false'. Refute it at one input. -/
def sexpDepthWrong : ChangeSpec := { name := "sexpDepth", fn := fun _ => fun
  | [d] => { results := [.lit (.bool false)], args := [d] }
  | _ => none }
def SexpDepthWrongFalsely : Prop := sexpDepthRow.holds Tryd.pinned (OpenSpec.ofChange sexpDepthWrong)

/-- 'plaitlaw2.SexpPrefix': WHATEVER THE INPUT: true; the input reads as it did. -/
def sexpPrefixSpec : ChangeSpec := { name := "sexpPrefix", fn := fun _ => fun
  | [d1, d2] => { results := [.lit (.bool true)], args := [d1, d2] }
  | _ => none }
def sexpPrefixRow : OpenClaim := { program := "ytdhfjaekhibaaaadoor", sum := "5bee92f1d59c0d83f0edf140b9dbb8667048726eceb66822834c497566dda3c8", func := "plait/plaitlaw2.SexpPrefix", spec := "sexpPrefix", inPlace := ["internal/bytealg.IndexByteString", "internal/abi.NoEscape", "internal/reflectlite.ValueOf", "(internal/reflectlite.Value).Type", "(internal/reflectlite.Value).IsNil", "internal/reflectlite.TypeOf", "(internal/reflectlite.Value).Elem", "(internal/reflectlite.Value).Set"], unfollowed := true, recurses := true, named := ["errors.errorType"], apart := false, laid := [("errors.errorType", laid_errors_errorType)] }
def SexpPrefixSaid : Prop := sexpPrefixRow.holds Tryd.pinned (OpenSpec.ofChange sexpPrefixSpec)

/-- ITS FALSE NEIGHBOUR: 'it returns false'. Refute it at one input. -/
def sexpPrefixWrong : ChangeSpec := { name := "sexpPrefix", fn := fun _ => fun
  | [d1, d2] => { results := [.lit (.bool false)], args := [d1, d2] }
  | _ => none }
def SexpPrefixWrongFalsely : Prop := sexpPrefixRow.holds Tryd.pinned (OpenSpec.ofChange sexpPrefixWrong)

/- THE SECOND FORM. 'bulk': how many values and letters a reading holds, each counted each time it is reached (what is shared counts as often as it is met; a slice's spare places count too). A statement '..UptoSaid' is the law's where the arguments, and the package variables that the reading takes, are together of bulk at most 1048576: NARROWER than '..Said'. Prove '..Said' where nothing that the law and all that it calls make is longer than what came in: it says more and counts as full. Else prove '..UptoSaid'. A law counts once. -/
mutual
def uptoBulk {H : Type} : DataW H → Nat
  | .lit (.string bytes) => bytes.length + 1
  | .lit _ => 1
  | .nil => 1
  | .ptr d => uptoBulk d + 1
  | .slice elems spare => uptoBulkAll elems + uptoBulkAll spare + 1
  | .agg parts => uptoBulkAll parts + 1
  | .iface _ d => uptoBulk d + 1
  | .map entries => uptoBulkEntries entries + 1
  | .held _ => 1
def uptoBulkAll {H : Type} : List (DataW H) → Nat
  | [] => 0
  | d :: r => uptoBulk d + uptoBulkAll r
def uptoBulkEntries {H : Type} : List (Lit × DataW H) → Nat
  | [] => 0
  | x :: r => uptoBulkEntry x + uptoBulkEntries r
def uptoBulkEntry {H : Type} : Lit × DataW H → Nat
  | (.string bytes, d) => bytes.length + uptoBulk d + 1
  | (_, d) => uptoBulk d + 1
 end
def uptoSmall : (H : Type) → List (DataW H) → Bool := fun _ ds => decide (uptoBulkAll ds ≤ 1048576)
def OpenSpec.upto (s : _root_.Go.ChangeSpec) : _root_.Go.OpenSpec := { _root_.Go.OpenSpec.ofChange s with cond := some uptoSmall }

/-- 'plaitlaw2.SexpParse', WHERE WHAT IT READS IS OF BULK AT MOST 1048576: true; the input reads as it did. -/
def sexpParseUptoRow : OpenClaim := { program := "ytdhfjaekhibaaaadoor", sum := "5bee92f1d59c0d83f0edf140b9dbb8667048726eceb66822834c497566dda3c8", func := "plait/plaitlaw2.SexpParse", spec := "sexpParse", inPlace := ["internal/bytealg.IndexByteString", "internal/abi.NoEscape", "internal/reflectlite.ValueOf", "(internal/reflectlite.Value).Type", "(internal/reflectlite.Value).IsNil", "internal/reflectlite.TypeOf", "(internal/reflectlite.Value).Elem", "(internal/reflectlite.Value).Set"], unfollowed := true, recurses := true, named := ["errors.errorType"], apart := false, laid := [("errors.errorType", laid_errors_errorType)], narrowed := true }
def SexpParseUptoSaid : Prop := sexpParseUptoRow.holds Tryd.pinned (OpenSpec.upto sexpParseSpec)

/-- 'plaitlaw2.SexpPrint', WHERE WHAT IT READS IS OF BULK AT MOST 1048576: true; the input reads as it did. -/
def sexpPrintUptoRow : OpenClaim := { program := "ytdhfjaekhibaaaadoor", sum := "5bee92f1d59c0d83f0edf140b9dbb8667048726eceb66822834c497566dda3c8", func := "plait/plaitlaw2.SexpPrint", spec := "sexpPrint", inPlace := ["internal/bytealg.IndexByteString", "internal/abi.NoEscape", "internal/reflectlite.ValueOf", "(internal/reflectlite.Value).Type", "(internal/reflectlite.Value).IsNil", "internal/reflectlite.TypeOf", "(internal/reflectlite.Value).Elem", "(internal/reflectlite.Value).Set"], unfollowed := true, recurses := true, named := ["errors.errorType"], loops := true, apart := false, laid := [("errors.errorType", laid_errors_errorType)], narrowed := true }
def SexpPrintUptoSaid : Prop := sexpPrintUptoRow.holds Tryd.pinned (OpenSpec.upto sexpPrintSpec)

/-- 'plaitlaw2.SexpBack', WHERE WHAT IT READS IS OF BULK AT MOST 1048576: true; the input reads as it did. -/
def sexpBackUptoRow : OpenClaim := { program := "ytdhfjaekhibaaaadoor", sum := "5bee92f1d59c0d83f0edf140b9dbb8667048726eceb66822834c497566dda3c8", func := "plait/plaitlaw2.SexpBack", spec := "sexpBack", inPlace := ["internal/bytealg.IndexByteString", "internal/abi.NoEscape", "internal/reflectlite.ValueOf", "(internal/reflectlite.Value).Type", "(internal/reflectlite.Value).IsNil", "internal/reflectlite.TypeOf", "(internal/reflectlite.Value).Elem", "(internal/reflectlite.Value).Set"], unfollowed := true, recurses := true, named := ["errors.errorType"], loops := true, apart := false, laid := [("errors.errorType", laid_errors_errorType)], narrowed := true }
def SexpBackUptoSaid : Prop := sexpBackUptoRow.holds Tryd.pinned (OpenSpec.upto sexpBackSpec)

/-- 'plaitlaw2.SexpBlanks', WHERE WHAT IT READS IS OF BULK AT MOST 1048576: true; the input reads as it did. -/
def sexpBlanksUptoRow : OpenClaim := { program := "ytdhfjaekhibaaaadoor", sum := "5bee92f1d59c0d83f0edf140b9dbb8667048726eceb66822834c497566dda3c8", func := "plait/plaitlaw2.SexpBlanks", spec := "sexpBlanks", inPlace := ["internal/bytealg.IndexByteString", "internal/abi.NoEscape", "internal/reflectlite.ValueOf", "(internal/reflectlite.Value).Type", "(internal/reflectlite.Value).IsNil", "internal/reflectlite.TypeOf", "(internal/reflectlite.Value).Elem", "(internal/reflectlite.Value).Set"], unfollowed := true, recurses := true, named := ["errors.errorType"], loops := true, apart := false, laid := [("errors.errorType", laid_errors_errorType)], narrowed := true }
def SexpBlanksUptoSaid : Prop := sexpBlanksUptoRow.holds Tryd.pinned (OpenSpec.upto sexpBlanksSpec)

/-- 'plaitlaw2.SexpDepth', WHERE WHAT IT READS IS OF BULK AT MOST 1048576: true; the input reads as it did. -/
def sexpDepthUptoRow : OpenClaim := { program := "ytdhfjaekhibaaaadoor", sum := "5bee92f1d59c0d83f0edf140b9dbb8667048726eceb66822834c497566dda3c8", func := "plait/plaitlaw2.SexpDepth", spec := "sexpDepth", inPlace := ["internal/bytealg.IndexByteString", "internal/abi.NoEscape", "internal/reflectlite.ValueOf", "(internal/reflectlite.Value).Type", "(internal/reflectlite.Value).IsNil", "internal/reflectlite.TypeOf", "(internal/reflectlite.Value).Elem", "(internal/reflectlite.Value).Set"], unfollowed := true, recurses := true, named := ["errors.errorType"], apart := false, laid := [("errors.errorType", laid_errors_errorType)], narrowed := true }
def SexpDepthUptoSaid : Prop := sexpDepthUptoRow.holds Tryd.pinned (OpenSpec.upto sexpDepthSpec)

/-- 'plaitlaw2.SexpPrefix', WHERE WHAT IT READS IS OF BULK AT MOST 1048576: true; the input reads as it did. -/
def sexpPrefixUptoRow : OpenClaim := { program := "ytdhfjaekhibaaaadoor", sum := "5bee92f1d59c0d83f0edf140b9dbb8667048726eceb66822834c497566dda3c8", func := "plait/plaitlaw2.SexpPrefix", spec := "sexpPrefix", inPlace := ["internal/bytealg.IndexByteString", "internal/abi.NoEscape", "internal/reflectlite.ValueOf", "(internal/reflectlite.Value).Type", "(internal/reflectlite.Value).IsNil", "internal/reflectlite.TypeOf", "(internal/reflectlite.Value).Elem", "(internal/reflectlite.Value).Set"], unfollowed := true, recurses := true, named := ["errors.errorType"], apart := false, laid := [("errors.errorType", laid_errors_errorType)], narrowed := true }
def SexpPrefixUptoSaid : Prop := sexpPrefixUptoRow.holds Tryd.pinned (OpenSpec.upto sexpPrefixSpec)

end Rows
end Go.Proofs.YtdhfjaekhibaaaaDoor
