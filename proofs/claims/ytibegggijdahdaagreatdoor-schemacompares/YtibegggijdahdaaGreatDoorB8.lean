/-
  THE TABLES out of what is laid: signs, tens (a seat whose laws stand on both).
-/
import Derived.Test.YtibegggijdahdaaGreatDoorCards
import Derived.Test.YtibegggijdahdaaGreatDoorTie
import Derived.Lay
import Derived.Deep.DeepHandedRow
import Derived.Lib.LaidTab
import Derived.Lib.LaidU8T
import Derived.Shelf.Vars
import Derived.LaidSub
import Derived.Test.YtibegggijdahdaaGreatDoorB7
import Derived.Test.YtibegggijdahdaaGreatDoorN0
set_option linter.unusedVariables false
set_option linter.unusedSimpArgs false
namespace Go.Proofs.D
open Go Go.Abs Go.RowKit Go.ChangeShapes Go.WideShapes
section
variable {W:World}
theorem u8extraS:U8Extra Tryz.prog Tryz.lays196_ren:={ n3:=by kernel_rfl,n4:=by kernel_rfl,y3:=by kernel_rfl,y4:=by kernel_rfl,c5:=by kernel_rfl,c119:=by kernel_rfl,c138:=by kernel_rfl }
theorem tabsS_of {L:List (String × DataW Unit)}(h:laidMetH Tryz.prog L W)(m1:("unicode/utf8.acceptRanges",Go.Proofs.YtibegggijdahdaaGreatDoor.Rows.laid_unicode_utf8_acceptRanges)∈L)(m2:("unicode/utf8.first",Go.Proofs.YtibegggijdahdaaGreatDoor.Rows.laid_unicode_utf8_first)∈L)(hsh:W.ShapedOpen Tryz.prog):tabs.p W (allOf W):=by
 have h1:=(laidMetH_iff.1 h).1;have e3:Go.Proofs.YtibegggijdahdaaGreatDoor.Rows.laid_unicode_utf8_first=Lib.firstData:=by kernel_rfl
 have e4:(Go.Proofs.YtibegggijdahdaaGreatDoor.Rows.laid_unicode_utf8_acceptRanges:DataW Unit)=Lib.acceptData:=by kernel_rfl
 have r3:Lib.VarReads Tryz.prog W "unicode/utf8.first" Lib.firstData:=Lib.laidMet.reads h1 (List.mem_filter.2 ⟨by rw [←e3];exact m2,by kernel_rfl⟩);have r4:Lib.VarReads Tryz.prog W "unicode/utf8.acceptRanges" Lib.acceptData:=Lib.laidMet.reads h1 (List.mem_filter.2 ⟨by rw [←e4];exact m1,by kernel_rfl⟩);have ht:Lib.Utf8Tabs 0 1 W:=utf8Tabs_of_readsT (U8Types.of196 Tryz.lays196) u8extraS r3 r4;obtain ⟨m,hm⟩:=cell_of_shapedOpen_int (g:=2) (t:=3) (zero:=#[.int .i64 0]) (k:=.i64) hsh (of_decide_eq_true (by kernel_rfl)) (by kernel_rfl) rfl (by kernel_rfl) (by kernel_rfl) Tryz.underlying3;exact ⟨ht,(cell_lt (ht.1 0 (by omega))).1,(cell_lt (ht.2 0 (by omega)).1).1,⟨m,hm⟩,(cell_lt hm).1⟩
theorem tab2_of {L:List (String × DataW Unit)}(h:laidMetH Tryz.prog L W)(m1:("unicode/utf8.acceptRanges",Go.Proofs.YtibegggijdahdaaGreatDoor.Rows.laid_unicode_utf8_acceptRanges)∈L)(m2:("unicode/utf8.first",Go.Proofs.YtibegggijdahdaaGreatDoor.Rows.laid_unicode_utf8_first)∈L)(m3:("internal/strconv.uint64pow10",Go.Proofs.YtibegggijdahdaaGreatDoor.Rows.laid_internal_strconv_uint64pow10)∈L)(hsh:W.ShapedOpen Tryz.prog):tab2.p W (allOf W):=
 ⟨tabsS_of h m1 m2 hsh,tab10_of h m3⟩
end
end Go.Proofs.D
