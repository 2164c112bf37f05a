/-
  WHAT CARDS SHARE that stand on the library's tables.
-/
import Derived.Test.YtibegggijdahdaaGreatDoorCards
import Derived.Test.YtibegggijdahdaaGreatDoorTie
import Derived.Lay
import Derived.Deep.DeepHandedRow
import Derived.Lib.LaidTab
import Derived.Lib.LaidU8T
import Derived.Shelf.Vars
import Derived.LaidSub
import Derived.Test.YtibegggijdahdaaGreatDoorT3
import Derived.Test.YtibegggijdahdaaGreatDoorQ4
set_option linter.unusedVariables false
set_option linter.unusedSimpArgs false
namespace Go.Proofs.D
open Go Go.Abs Go.RowKit Go.ChangeShapes Go.WideShapes
set_option maxRecDepth 20000 in
theorem argT {H:Type}{enc:TypeId × Value→H}{W:World}{b0:Nat}{v:Value}{d:DataW H}{p:List MemPlace}(hok:Value.okWide Tryz.prog W .any b0 9 v)(hr:DataW.Trod enc Tryz.prog W 0 (fun _=>true) true 9 v d p):∃t:Bs,Rep W (allOf W) noHd (vS (bytesOf t)) v:=by
 obtain ⟨s,rfl,_,_,_⟩:=Go.ChangeMaps.open_string Tryz.underlying9 hok hr;exact ⟨s.data.toList,by rw [bytesOf_list];exact rep_val rfl⟩
end Go.Proofs.D
