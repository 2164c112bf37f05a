/-
  A TEXT that goes to its code points and back is the same just if it is well formed.
-/
import Derived.Test.YtkjfaanenmhlbaaGreatDoorP1
import Derived.Test.YtkjfaanenmhlbaaGreatDoorAbsR
import Derived.Lib.MapLaws
import Derived.Lib.ValidLaws
import Derived.Lib.RuneCount
