/-
  THE CODE POINTS OF A TEXT as a row, and back; the smaller of two numbers.
-/
import Derived.Test.YtciibpfhjfegnaaGreatDoorAbsLR
import Derived.Laws.IdiomStrings
import Derived.Laws.Cover4
import Derived.Lib.TrimUEq
set_option linter.unusedVariables false
set_option linter.unusedSimpArgs false
namespace Go.Abs
open Go.RowKit
def callSideR (n : Nat) (ops : Array Oper) (draw : Bool) (i : Nat) (o : Oper) (opl : List Oper) (done : List Trace) (L : LS) (g : FuncId) (args : List AV) (ns : List Nm) (pre : List (Option Blk)) (v : AV) (post : List (Option Blk)) : Prop := match o.op with
  | .call c => match c.callee with
    | .value x => match L.ev x with
      | .fn (.func g') first caps => g' = g ∧ guardOf ops o L = some true ∧ dstOk n o = true ∧ AV.ren.renL (inName ns) (first ++ evL L c.args.toList ++ caps) = args ∧ renBs (inName ns) (blksOf L ns) = pre ∧ allSome (blksOf L ns) = true ∧ nodupB ns = true ∧ post.length = ns.length ∧
        onlyArgs ns.length v.ments = true ∧ onlyArgs ns.length (blksMents post) = true ∧ renBs (backName ns) post = blksOf L ns ∧ okPair ops draw done o ⟨i, ns, []⟩ (v.ren (backName ns)).ments opl = true
      | _ => False
    | _ => False
  | _ => False
end Go.Abs
