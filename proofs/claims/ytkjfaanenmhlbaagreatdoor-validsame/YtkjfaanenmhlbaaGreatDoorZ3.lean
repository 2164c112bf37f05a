/-
  THE TYPES of nodes are unfolded.
-/
import Derived.Test.YtkjfaanenmhlbaaGreatDoorZ1
import Derived.Test.YtkjfaanenmhlbaaGreatDoorS0
set_option linter.unusedVariables false
set_option linter.unusedSimpArgs false
namespace Go.Proofs.D
open Go Go.Abs
attribute [simp] T3
end Go.Proofs.D
