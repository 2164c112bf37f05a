/-
  ROWS OF NUMBERS THAT RISE, laid together; one step of the answer's table.
-/
import Derived.Test.YtibegggijdahdaaGreatDoorZ5
import Derived.Test.YtibegggijdahdaaGreatDoorG3
import Derived.Test.YtibegggijdahdaaGreatDoorG12
