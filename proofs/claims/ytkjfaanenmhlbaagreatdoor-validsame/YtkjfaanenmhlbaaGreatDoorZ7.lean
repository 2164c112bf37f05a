/-
  THE TYPES of judges are unfolded.
-/
import Derived.Test.YtkjfaanenmhlbaaGreatDoorZ8
import Derived.Test.YtkjfaanenmhlbaaGreatDoorJ1
set_option linter.unusedVariables false
set_option linter.unusedSimpArgs false
namespace Go.Proofs.D
open Go Go.Abs
attribute [simp] T7
end Go.Proofs.D
