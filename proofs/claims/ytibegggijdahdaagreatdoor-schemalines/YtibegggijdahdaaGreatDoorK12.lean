/-
  NODES: is one a text, do names rise, are two alike; what an entry says.
-/
import Derived.Test.YtibegggijdahdaaGreatDoorZ3
import Derived.Test.YtibegggijdahdaaGreatDoorK3
import Derived.Test.YtibegggijdahdaaGreatDoorL6
import Derived.Test.YtibegggijdahdaaGreatDoorAbsP
set_option linter.unusedVariables false
set_option linter.unusedSimpArgs false
namespace Go.Proofs.D
open Go Go.Abs Go.RowKit
def prevAt {α:Type}(l:List α)(i:Nat):Option α:=if i=0 then none else l[i-1]?
theorem prevAt_succ {α:Type}{l:List α}{i:Nat}(h:i<l.length):prevAt l (i+1)=some l[i]:=by
 simp [prevAt,h]
end Go.Proofs.D
