/-
  THE SECOND ANSWER: how many expressions are in one; what is a name.
-/
import Derived.Test.YtibegggijdahdaaGreatDoorZ0
import Derived.Test.YtibegggijdahdaaGreatDoorD16
import Derived.Test.YtibegggijdahdaaGreatDoorAbsMB
