/-
  WHAT AN EXPRESSION MEANS, by its names.
-/
import Derived.Test.YtibegggijdahdaaGreatDoorG12
import Derived.Test.YtibegggijdahdaaGreatDoorL2
import Derived.Sort.Walk0
