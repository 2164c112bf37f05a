/-
  SETS OF PLACES, gone through.
-/
import Derived.Test.YtibegggijdahdaaGreatDoorZ5
import Derived.Test.YtibegggijdahdaaGreatDoorG7
import Derived.Test.YtibegggijdahdaaGreatDoorG12
import Derived.Test.YtibegggijdahdaaGreatDoorAbsMB
