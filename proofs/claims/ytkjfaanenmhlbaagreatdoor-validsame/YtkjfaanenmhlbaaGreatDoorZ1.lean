/-
  THE RULES of calls that hand back blocks, and of rows.
-/
import Derived.Test.YtkjfaanenmhlbaaGreatDoorZ0
import Derived.Test.YtkjfaanenmhlbaaGreatDoorAbsR
set_option linter.unusedVariables false
set_option linter.unusedSimpArgs false
namespace Go.Proofs.D
open Go Go.Abs
attribute [simp] outs callSideO callSideD upsR backO freshAll argB onlyIO List.map List.append List.nil_append List.cons_append
end Go.Proofs.D
