/-
  WHERE TWO PART (dfa.apart).
-/
import Derived.Test.YtkjfaanenmhlbaaGreatDoorZ5
import Derived.Test.YtkjfaanenmhlbaaGreatDoorH21
import Derived.Test.YtkjfaanenmhlbaaGreatDoorAbsMB
import Derived.Test.YtkjfaanenmhlbaaGreatDoorG3
