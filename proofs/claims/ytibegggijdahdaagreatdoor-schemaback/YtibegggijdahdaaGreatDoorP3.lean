/-
  WHAT IS QUOTED, as the library replaces its signs.
-/
import Derived.Test.YtibegggijdahdaaGreatDoorQ4
import Derived.Lib.Replace
