/-
  WHAT AN EXPRESSION MEANS, by its names.
-/
import Derived.Test.YtkjfaanenmhlbaaGreatDoorG12
import Derived.Test.YtkjfaanenmhlbaaGreatDoorL2
import Derived.Sort.Walk0
