/-
  THE CODE POINTS OF A TEXT as a row, and back; the smaller of two numbers.
-/
import Derived.Test.YtciibpfhjfegnaaGreatDoorAbsY
import Derived.Laws.IdiomStrings
import Derived.Laws.Cover4
import Derived.Lib.TrimUEq
set_option linter.unusedVariables false
set_option linter.unusedSimpArgs false
namespace Go.Abs
open Go.RowKit
section
variable {C : Ctx} {P : Program} {Gl : Granted} {T : TT} {n : Nat} {rs : List ResultVar} {v : AV} {post : List (Nm × Option Blk)} {ops : Array Oper} {draw : Bool} {i : Nat} {o : Oper} {opl : List Oper} {done : List Trace} {todo : List Item} {L : LS}
theorem Rd.min (h : Rd C P Gl T n rs v post) {x y : Operand} {c : Call} {k : IntKind} {a b : Int} (h1 : o.op = .call c) (hc : c.callee = .builtin .min) (hx : c.args = #[x, y])
    (hst : guardOf ops o L = some true ∧ dstOk n o = true ∧ L.ev x = .pv (.val (.int k a)) ∧ L.ev y = .pv (.val (.int k b)) ∧ okPair ops draw done o ⟨i, [], []⟩ [] opl = true)
    (hnext : Go C (.reg ops draw (i + 1) opl (nexts o draw ⟨i, [], []⟩ done) todo (L.app o.dst ⟨.pv (.val (.int k (if b < a then b else a))), []⟩))) : Go C (.reg ops draw i (o :: opl) done todo L) := by
  obtain ⟨h2, h3, h4, h5, h6⟩ := hst
  refine reg_step (fp := []) h2 (sem1_read (fun d hd => by rw [h.n]; exact dstOk_spec h3 d hd) fun L' hd F a' w hev hfp hi => ⟨_, ?_, .pv _ _ (.val _ rfl)⟩) (by simp) (fun q hq => by simp [news] at hq) (by simpa [upsMents, AV.ments] using h6) hnext
  have hv := hev x (by simp [h1, Op.operands, Call.operands, hx, hc])
  have hy := hev y (by simp [h1, Op.operands, Call.operands, hx, hc])
  rw [h4] at hv
  rw [h5] at hy
  have e0 := bool_of hv
  have e1 := bool_of hy
  have := run_min_int2 (P := C.P) (w := w) c.argTypes o.type k k a b
  simp [execOp, h1, resolve, hc, hx, invoke, builtin, e0, e1, this]
end
end Go.Abs
/-
  CALLS that leave the blocks that are handed on as they were: they only read.
-/
set_option linter.unusedVariables false
set_option linter.unusedSimpArgs false
namespace Go.Abs
open Go.RowKit
/-- What such a call asks of the operation that makes it. -/
def callSideR (n : Nat) (ops : Array Oper) (draw : Bool) (i : Nat) (o : Oper) (opl : List Oper) (done : List Trace) (L : LS) (g : FuncId) (args : List AV) (ns : List Nm) (pre : List (Option Blk)) (v : AV) (post : List (Option Blk)) : Prop := match o.op with
  | .call c => match c.callee with
    | .value x => match L.ev x with
      | .fn (.func g') first caps => g' = g ∧ guardOf ops o L = some true ∧ dstOk n o = true ∧ AV.ren.renL (inName ns) (first ++ evL L c.args.toList ++ caps) = args ∧ renBs (inName ns) (blksOf L ns) = pre ∧ allSome (blksOf L ns) = true ∧ nodupB ns = true ∧ post.length = ns.length ∧
        onlyArgs ns.length v.ments = true ∧ onlyArgs ns.length (blksMents post) = true ∧ renBs (backName ns) post = blksOf L ns ∧ okPair ops draw done o ⟨i, ns, []⟩ (v.ren (backName ns)).ments opl = true
      | _ => False
    | _ => False
  | _ => False
end Go.Abs
