/-
  THE TYPES of tables are unfolded.
-/
import Derived.Test.YtkjfaanenmhlbaaGreatDoorZ1
import Derived.Test.YtkjfaanenmhlbaaGreatDoorG0
set_option linter.unusedVariables false
set_option linter.unusedSimpArgs false
namespace Go.Proofs.D
open Go Go.Abs
attribute [simp] T5 callSideR
end Go.Proofs.D
