/-
  THE TYPES of tables of states; tables, and rows of numbers, as they lie in memory.
-/
import Derived.Test.YtkjfaanenmhlbaaGreatDoorD16
import Derived.Test.YtkjfaanenmhlbaaGreatDoorAbsR
import Derived.Test.YtkjfaanenmhlbaaGreatDoorL6
set_option linter.unusedVariables false
set_option linter.unusedSimpArgs false
namespace Go.Proofs.D
open Go Go.Abs
def T5:TT:=(134,⟨false,1,24,[.nilS 1],.slice 50⟩) ::
 (135,⟨false,1,24,[.nilS 1],.slice 4⟩) ::
 (137,⟨true,3,72,[.nilS 1,.nilS 1,.nilS 1],.str [(0,23),(1,134),(2,135)]⟩) ::
 (50,⟨false,1,24,[.nilS 1],.slice 3⟩) ::
 (207,⟨false,1,8,[.val (.pointer none)],.other⟩) ::
 (209,⟨true,9,136,[.val (.int .u32 0),.val (.int .i32 0),.val (.int .u32 0),.val (.int .u8 0),.val (.string ⟨#[]⟩),.nilS 3,.nilS 1,.nilS 1,.nilS 1],.str [(0,196),(3,63),(6,137)]⟩) ::
 (248,⟨false,1,8,[.val .nilFunc],.other⟩) ::
 (127,⟨false,1,8,[.val (.map none)],.other⟩) ::
 (312,⟨false,1,24,[.nilS 1],.slice 23⟩) ::
 (124,⟨false,1,8,[.val .nilFunc],.other⟩) ::
 (262,⟨true,2,16,[.val (.int .i64 0),.val (.int .i64 0)],.str [(0,3),(1,3)]⟩) ::
 (264,⟨true,3,40,[.val (.int .i64 0),.val (.int .i64 0),.nilS 1],.str [(0,262),(2,23)]⟩) ::
 (265,⟨false,1,24,[.nilS 3],.slice 264⟩) ::
 (266,⟨false,1,8,[.val (.map none)],.other⟩) ::
 (307,⟨false,1,24,[.nilS 3],.slice 63⟩) ::
 (309,⟨false,1,8,[.val (.map none)],.other⟩) ::
 (310,⟨false,1,24,[.nilS 1],.slice 309⟩) ::
 (338,⟨false,1,24,[.nilS 1],.slice 307⟩)::T
theorem tok5:TOk Tryz.prog T5:=
 tok_cons (tok1 (z:=.slice none 0 0) Tryz.isAgg134 (by kernel_rfl) rfl rfl rfl (by decide) Tryz.underlying134) <|
 tok_cons (tok1 (z:=.slice none 0 0) Tryz.isAgg135 (by kernel_rfl) rfl rfl rfl (by decide) Tryz.underlying135) <|
 tok_cons (tok1 (z:=.agg #[.slice none 0 0,.slice none 0 0,.slice none 0 0]) Tryz.isAgg137 (by kernel_rfl) rfl rfl rfl (by decide) ⟨_,Tryz.underlying137,rfl⟩) <|
 tok_cons (tok1 (z:=.slice none 0 0) Tryz.isAgg50 (by kernel_rfl) rfl rfl rfl (by decide) Tryz.underlying50) <|
 tok_cons (tok1 (z:=.pointer none) Tryz.isAgg207 (by kernel_rfl) rfl rfl rfl (by decide) trivial) <|
 tok_cons (tok1 (z:=.agg #[.int .u32 0,.int .i32 0,.int .u32 0,.int .u8 0,.string ⟨#[]⟩,.slice none 0 0,.slice none 0 0,.slice none 0 0,.slice none 0 0]) Tryz.isAgg209 (by kernel_rfl) rfl rfl rfl (by decide) ⟨_,Tryz.underlying209,rfl⟩) <|
 tok_cons (tok1 (z:=.nilFunc) Tryz.isAgg248 (by kernel_rfl) rfl rfl rfl (by decide) trivial) <|
 tok_cons (tok1 (z:=.map none) Tryz.isAgg127 (by kernel_rfl) rfl rfl rfl (by decide) trivial) <|
 tok_cons (tok1 (z:=.slice none 0 0) Tryz.isAgg312 (by kernel_rfl) rfl rfl rfl (by decide) Tryz.underlying312) <|
 tok_cons (tok1 (z:=.nilFunc) Tryz.isAgg124 (by kernel_rfl) rfl rfl rfl (by decide) trivial) <|
 tok_cons (tok1 (z:=.agg #[.int .i64 0,.int .i64 0]) Tryz.isAgg262 (by kernel_rfl) rfl rfl rfl (by decide) ⟨_,Tryz.underlying262,rfl⟩) <|
 tok_cons (tok1 (z:=.agg #[.int .i64 0,.int .i64 0,.slice none 0 0]) Tryz.isAgg264 (by kernel_rfl) rfl rfl rfl (by decide) ⟨_,Tryz.underlying264,rfl⟩) <|
 tok_cons (tok1 (z:=.slice none 0 0) Tryz.isAgg265 (by kernel_rfl) rfl rfl rfl (by decide) Tryz.underlying265) <|
 tok_cons (tok1 (z:=.map none) Tryz.isAgg266 (by kernel_rfl) rfl rfl rfl (by decide) trivial) <|
 tok_cons (tok1 (z:=.slice none 0 0) Tryz.isAgg307 (by kernel_rfl) rfl rfl rfl (by decide) Tryz.underlying307) <|
 tok_cons (tok1 (z:=.map none) Tryz.isAgg309 (by kernel_rfl) rfl rfl rfl (by decide) trivial) <|
 tok_cons (tok1 (z:=.slice none 0 0) Tryz.isAgg310 (by kernel_rfl) rfl rfl rfl (by decide) Tryz.underlying310) <|
 tok_cons (tok1 (z:=.slice none 0 0) Tryz.isAgg338 (by kernel_rfl) rfl rfl rfl (by decide) Tryz.underlying338) <| tok
abbrev ints (l:List Int):PV:=.ro 1 (l.map fun z=>[.val (.int .i64 z)])
abbrev namesV (l:List ByteArray):PV:=.ro 1 (l.map fun s=>[.val (.string s)])
abbrev rowsV (l:List (List Int)):PV:=.ro 1 (l.map fun r=>[ints r])
abbrev finV (l:List Bool):PV:=.ro 1 (l.map fun b=>[.val (.bool b)])
abbrev nm0:AV:=.pv (.nilS 1)
def Au.cells (d:Au):List AV:=[.pv (namesV d.names),.pv (rowsV d.next),.pv (finV d.final)]
def Au.av (d:Au):AV:=.agg d.cells
end Go.Proofs.D
