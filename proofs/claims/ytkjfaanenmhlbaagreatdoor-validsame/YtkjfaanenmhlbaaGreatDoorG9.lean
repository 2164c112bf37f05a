/-
  SETS OF PLACES, gone through.
-/
import Derived.Test.YtkjfaanenmhlbaaGreatDoorZ5
import Derived.Test.YtkjfaanenmhlbaaGreatDoorG7
import Derived.Test.YtkjfaanenmhlbaaGreatDoorG12
import Derived.Test.YtkjfaanenmhlbaaGreatDoorAbsMB
