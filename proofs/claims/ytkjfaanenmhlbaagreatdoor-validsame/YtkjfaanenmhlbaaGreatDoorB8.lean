/-
  TYPES of schemas and of tables of states, together; what is granted, together.
-/
import Derived.Test.YtkjfaanenmhlbaaGreatDoorS0
import Derived.Test.YtkjfaanenmhlbaaGreatDoorG0
import Derived.Test.YtkjfaanenmhlbaaGreatDoorB3
import Derived.Test.YtkjfaanenmhlbaaGreatDoorH21
import Derived.Test.YtkjfaanenmhlbaaGreatDoorCards
import Derived.Test.YtkjfaanenmhlbaaGreatDoorTie
import Derived.Lay
import Derived.Deep.DeepHandedRow
import Derived.Lib.LaidTab
import Derived.Lib.LaidU8T
import Derived.Shelf.Vars
import Derived.LaidSub
import Derived.Test.YtkjfaanenmhlbaaGreatDoorB7
set_option linter.unusedVariables false
set_option linter.unusedSimpArgs false
namespace Go.Proofs.D
open Go Go.Abs Go.RowKit
def T9:TT:=(48,⟨true,5,104,[.val (.string ⟨#[]⟩),.val (.string ⟨#[]⟩),.nilS 1,.nilS 2,.nilS 5],.str [(0,9),(1,9),(2,23),(3,45),(4,46)]⟩) ::
 (46,⟨false,1,24,[.nilS 5],.slice 48⟩) ::
 (56,⟨true,2,32,[.val (.string ⟨#[]⟩),.val (.string ⟨#[]⟩)],.str [(0,9),(1,9)]⟩) ::
 (45,⟨false,1,24,[.nilS 2],.slice 56⟩) ::
 (149,⟨true,2,32,[.val (.pointer none),.nilS 1],.str [(0,146),(1,147)]⟩) ::
 (146,⟨false,1,8,[.val (.pointer none)],.other⟩) ::
 (27,⟨true,6,104,[.val (.int .u8 0),.val (.string ⟨#[]⟩),.val (.string ⟨#[]⟩),.val (.string ⟨#[]⟩),.nilS 1,.nilS 1],.str [(0,5),(1,9),(2,9),(3,9),(4,23),(5,23)]⟩)::T5
theorem tok9:TOk Tryz.prog T9:=
 tok_cons (tok1 (z:=.agg #[.string ⟨#[]⟩,.string ⟨#[]⟩,.slice none 0 0,.slice none 0 0,.slice none 0 0]) Tryz.isAgg48 (by kernel_rfl) rfl rfl rfl (by decide) ⟨_,Tryz.underlying48,rfl⟩) <|
 tok_cons (tok1 (z:=.slice none 0 0) Tryz.isAgg46 (by kernel_rfl) rfl rfl rfl (by decide) Tryz.underlying46) <|
 tok_cons (tok1 (z:=.agg #[.string ⟨#[]⟩,.string ⟨#[]⟩]) Tryz.isAgg56 (by kernel_rfl) rfl rfl rfl (by decide) ⟨_,Tryz.underlying56,rfl⟩) <|
 tok_cons (tok1 (z:=.slice none 0 0) Tryz.isAgg45 (by kernel_rfl) rfl rfl rfl (by decide) Tryz.underlying45) <|
 tok_cons (tok1 (z:=.agg #[.pointer none,.slice none 0 0]) Tryz.isAgg149 (by kernel_rfl) rfl rfl rfl (by decide) ⟨_,Tryz.underlying149,rfl⟩) <|
 tok_cons (tok1 (z:=.pointer none) Tryz.isAgg146 (by kernel_rfl) rfl rfl rfl (by decide) trivial) <|
 tok_cons (tok1 (z:=.agg #[.int .u8 0,.string ⟨#[]⟩,.string ⟨#[]⟩,.string ⟨#[]⟩,.slice none 0 0,.slice none 0 0]) Tryz.isAgg27 (by kernel_rfl) rfl rfl rfl (by decide) ⟨_,Tryz.underlying27,rfl⟩) <| tok5
def T8:TT:=(25,⟨true,2,48,[.nilS 5,.nilS 1],.str [(0,22),(1,23)]⟩) ::
 (22,⟨false,1,24,[.nilS 5],.slice 66⟩) ::
 (66,⟨true,5,88,[.val (.string ⟨#[]⟩),.val (.int .u8 0),.val (.string ⟨#[]⟩),.nilS 3,.nilS 2],.str [(0,9),(1,63),(4,64)]⟩) ::
 (64,⟨false,1,24,[.nilS 2],.slice 70⟩) ::
 (70,⟨true,2,40,[.val (.string ⟨#[]⟩),.nilS 1],.str [(0,9),(1,23)]⟩) ::
 (35,⟨true,2,48,[.nilS 5,.nilS 1],.str [(0,33),(1,23)]⟩) ::
 (33,⟨false,1,24,[.nilS 5],.slice 108⟩) ::
 (108,⟨true,5,88,[.val (.string ⟨#[]⟩),.val (.int .u8 0),.val (.string ⟨#[]⟩),.nilS 3,.nilS 2],.str [(0,9),(1,105),(4,106)]⟩) ::
 (106,⟨false,1,24,[.nilS 2],.slice 179⟩) ::
 (179,⟨true,2,40,[.val (.string ⟨#[]⟩),.nilS 1],.str [(0,9),(1,23)]⟩)::T9
theorem tok8:TOk Tryz.prog T8:=
 tok_cons (tok1 (z:=.agg #[.slice none 0 0,.slice none 0 0]) Tryz.isAgg25 (by kernel_rfl) rfl rfl rfl (by decide) ⟨_,Tryz.underlying25,rfl⟩) <|
 tok_cons (tok1 (z:=.slice none 0 0) Tryz.isAgg22 (by kernel_rfl) rfl rfl rfl (by decide) Tryz.underlying22) <|
 tok_cons (tok1 (z:=.agg #[.string ⟨#[]⟩,.int .u8 0,.string ⟨#[]⟩,.slice none 0 0,.slice none 0 0]) Tryz.isAgg66 (by kernel_rfl) rfl rfl rfl (by decide) ⟨_,Tryz.underlying66,rfl⟩) <|
 tok_cons (tok1 (z:=.slice none 0 0) Tryz.isAgg64 (by kernel_rfl) rfl rfl rfl (by decide) Tryz.underlying64) <|
 tok_cons (tok1 (z:=.agg #[.string ⟨#[]⟩,.slice none 0 0]) Tryz.isAgg70 (by kernel_rfl) rfl rfl rfl (by decide) ⟨_,Tryz.underlying70,rfl⟩) <|
 tok_cons (tok1 (z:=.agg #[.slice none 0 0,.slice none 0 0]) Tryz.isAgg35 (by kernel_rfl) rfl rfl rfl (by decide) ⟨_,Tryz.underlying35,rfl⟩) <|
 tok_cons (tok1 (z:=.slice none 0 0) Tryz.isAgg33 (by kernel_rfl) rfl rfl rfl (by decide) Tryz.underlying33) <|
 tok_cons (tok1 (z:=.agg #[.string ⟨#[]⟩,.int .u8 0,.string ⟨#[]⟩,.slice none 0 0,.slice none 0 0]) Tryz.isAgg108 (by kernel_rfl) rfl rfl rfl (by decide) ⟨_,Tryz.underlying108,rfl⟩) <|
 tok_cons (tok1 (z:=.slice none 0 0) Tryz.isAgg106 (by kernel_rfl) rfl rfl rfl (by decide) Tryz.underlying106) <|
 tok_cons (tok1 (z:=.agg #[.string ⟨#[]⟩,.slice none 0 0]) Tryz.isAgg179 (by kernel_rfl) rfl rfl rfl (by decide) ⟨_,Tryz.underlying179,rfl⟩) <| tok9
def tab2:Granted:=⟨fun w F=>tabs.p w F∧tab10.p w F,fun h hw hF=>⟨tabs.mono h.1 hw hF,tab10.mono h.2 hw hF⟩⟩
theorem Fun.up {P:Program}{Gl Gl':Granted}{g:FuncId}{args:List AV}{pre:List (Option Blk)}{v:AV}{post:List (Option Blk)}(h:∀w F,Gl'.p w F→Gl.p w F)(hf:Fun P Gl g args pre v post):Fun P Gl' g args pre v post:=
 ⟨hf.fn,fun w F hd cargs hg=>hf.calls w F hd cargs (h _ _ hg)⟩
theorem upT {P:Program}{g:FuncId}{args:List AV}{pre:List (Option Blk)}{v:AV}{post:List (Option Blk)}(hf:Fun P tabs g args pre v post):Fun P tab2 g args pre v post:=Fun.up (fun _ _ h=>h.1) hf
theorem up10 {P:Program}{g:FuncId}{args:List AV}{pre:List (Option Blk)}{v:AV}{post:List (Option Blk)}(hf:Fun P tab10 g args pre v post):Fun P tab2 g args pre v post:=Fun.up (fun _ _ h=>h.2) hf
open Go.ChangeShapes Go.WideShapes
section
variable {W:World}
theorem u8extraS:U8Extra Tryz.prog Tryz.lays196_ren:={ n3:=by kernel_rfl,n4:=by kernel_rfl,y3:=by kernel_rfl,y4:=by kernel_rfl,c5:=by kernel_rfl,c119:=by kernel_rfl,c138:=by kernel_rfl }
theorem tabsS_of {L:List (String × DataW Unit)}(h:laidMetH Tryz.prog L W)(m1:("unicode/utf8.acceptRanges",Go.Proofs.YtkjfaanenmhlbaaGreatDoor.Rows.laid_unicode_utf8_acceptRanges)∈L)(m2:("unicode/utf8.first",Go.Proofs.YtkjfaanenmhlbaaGreatDoor.Rows.laid_unicode_utf8_first)∈L)(hsh:W.ShapedOpen Tryz.prog):tabs.p W (allOf W):=by
 have h1:=(laidMetH_iff.1 h).1;have e3:Go.Proofs.YtkjfaanenmhlbaaGreatDoor.Rows.laid_unicode_utf8_first=Lib.firstData:=by kernel_rfl
 have e4:(Go.Proofs.YtkjfaanenmhlbaaGreatDoor.Rows.laid_unicode_utf8_acceptRanges:DataW Unit)=Lib.acceptData:=by kernel_rfl
 have r3:Lib.VarReads Tryz.prog W "unicode/utf8.first" Lib.firstData:=Lib.laidMet.reads h1 (List.mem_filter.2 ⟨by rw [←e3];exact m2,by kernel_rfl⟩);have r4:Lib.VarReads Tryz.prog W "unicode/utf8.acceptRanges" Lib.acceptData:=Lib.laidMet.reads h1 (List.mem_filter.2 ⟨by rw [←e4];exact m1,by kernel_rfl⟩);have ht:Lib.Utf8Tabs 0 1 W:=utf8Tabs_of_readsT (U8Types.of196 Tryz.lays196) u8extraS r3 r4;obtain ⟨m,hm⟩:=cell_of_shapedOpen_int (g:=2) (t:=3) (zero:=#[.int .i64 0]) (k:=.i64) hsh (of_decide_eq_true (by kernel_rfl)) (by kernel_rfl) rfl (by kernel_rfl) (by kernel_rfl) Tryz.underlying3;exact ⟨ht,(cell_lt (ht.1 0 (by omega))).1,(cell_lt (ht.2 0 (by omega)).1).1,⟨m,hm⟩,(cell_lt hm).1⟩
theorem tab2_of {L:List (String × DataW Unit)}(h:laidMetH Tryz.prog L W)(m1:("unicode/utf8.acceptRanges",Go.Proofs.YtkjfaanenmhlbaaGreatDoor.Rows.laid_unicode_utf8_acceptRanges)∈L)(m2:("unicode/utf8.first",Go.Proofs.YtkjfaanenmhlbaaGreatDoor.Rows.laid_unicode_utf8_first)∈L)(m3:("internal/strconv.uint64pow10",Go.Proofs.YtkjfaanenmhlbaaGreatDoor.Rows.laid_internal_strconv_uint64pow10)∈L)(hsh:W.ShapedOpen Tryz.prog):tab2.p W (allOf W):=
 ⟨tabsS_of h m1 m2 hsh,tab10_of h m3⟩
end
end Go.Proofs.D
