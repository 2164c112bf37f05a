/-
  A TEXT that goes to its code points and back is the same just if it is well formed.
-/
import Derived.Test.YtibegggijdahdaaGreatDoorP1
import Derived.Test.YtibegggijdahdaaGreatDoorAbsMB
import Derived.Lib.MapLaws
import Derived.Lib.ValidLaws
import Derived.Lib.RuneCount
