/-
  WHAT AN EXPRESSION MEANS, by its names.
-/
import Derived.Test.YtciibpfhjfegnaaGreatDoorG12
import Derived.Test.YtciibpfhjfegnaaGreatDoorL2
import Derived.Sort.Walk0
