/-
  THE SECOND ANSWER: how many expressions are in one; what is a name.
-/
import Derived.Test.YtkjfaanenmhlbaaGreatDoorZ0
import Derived.Test.YtkjfaanenmhlbaaGreatDoorD16
import Derived.Test.YtkjfaanenmhlbaaGreatDoorAbsR
