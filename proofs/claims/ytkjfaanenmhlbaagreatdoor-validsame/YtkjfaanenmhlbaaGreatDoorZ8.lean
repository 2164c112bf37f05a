/-
  THE TYPES of schemas and of tables together are unfolded.
-/
import Derived.Test.YtkjfaanenmhlbaaGreatDoorZ4
import Derived.Test.YtkjfaanenmhlbaaGreatDoorZ5
import Derived.Test.YtkjfaanenmhlbaaGreatDoorB8
set_option linter.unusedVariables false
set_option linter.unusedSimpArgs false
namespace Go.Proofs.D
open Go Go.Abs
attribute [simp] T8 T9
end Go.Proofs.D
