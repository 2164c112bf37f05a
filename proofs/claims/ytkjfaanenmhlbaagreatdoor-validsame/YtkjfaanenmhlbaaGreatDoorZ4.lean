/-
  THE TYPES of schemas are unfolded.
-/
import Derived.Test.YtkjfaanenmhlbaaGreatDoorZ3
import Derived.Test.YtkjfaanenmhlbaaGreatDoorS0
set_option linter.unusedVariables false
set_option linter.unusedSimpArgs false
namespace Go.Proofs.D
open Go Go.Abs
attribute [simp] T4 callSideR
end Go.Proofs.D
