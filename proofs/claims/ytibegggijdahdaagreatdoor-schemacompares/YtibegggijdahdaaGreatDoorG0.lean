/-
  THE TYPES of tables of states; tables, and rows of numbers, as they lie in memory.
-/
import Derived.Test.YtibegggijdahdaaGreatDoorD16
import Derived.Test.YtibegggijdahdaaGreatDoorAbsMB
import Derived.Test.YtibegggijdahdaaGreatDoorL6
set_option linter.unusedVariables false
set_option linter.unusedSimpArgs false
namespace Go.Proofs.D
open Go Go.Abs
def T5:TT:=(59,⟨false,1,24,[.nilS 1],.slice 158⟩) ::
 (60,⟨false,1,24,[.nilS 1],.slice 4⟩) ::
 (62,⟨true,3,72,[.nilS 1,.nilS 1,.nilS 1],.str [(0,23),(1,59),(2,60)]⟩) ::
 (158,⟨false,1,24,[.nilS 1],.slice 3⟩) ::
 (118,⟨true,3,72,[.nilS 1,.nilS 1,.nilS 1],.str [(0,23),(1,59),(2,60)]⟩) ::
 (98,⟨false,1,8,[.val (.pointer none)],.other⟩) ::
 (112,⟨true,9,136,[.val (.int .u32 0),.val (.int .i32 0),.val (.int .u32 0),.val (.int .u8 0),.val (.string ⟨#[]⟩),.nilS 3,.nilS 1,.nilS 1,.nilS 1],.str [(0,110),(3,42),(6,62)]⟩) ::
 (144,⟨false,1,8,[.val .nilFunc],.other⟩) ::
 (225,⟨false,1,8,[.val (.map none)],.other⟩) ::
 (157,⟨false,1,8,[.val (.pointer none)],.other⟩) ::
 (160,⟨true,5,104,[.nilS 1,.nilS 1,.nilS 1,.nilS 1,.val (.bool false)],.str [(0,23),(1,158),(2,158),(3,59),(4,4)]⟩) ::
 (169,⟨false,1,24,[.nilS 1],.slice 23⟩) ::
 (95,⟨false,1,8,[.val .nilFunc],.other⟩) ::
 (148,⟨true,2,16,[.val (.int .i64 0),.val (.int .i64 0)],.str [(0,3),(1,3)]⟩) ::
 (150,⟨true,3,40,[.val (.int .i64 0),.val (.int .i64 0),.nilS 1],.str [(0,148),(2,23)]⟩) ::
 (151,⟨false,1,24,[.nilS 3],.slice 150⟩) ::
 (152,⟨false,1,8,[.val (.map none)],.other⟩) ::
 (198,⟨false,1,24,[.nilS 3],.slice 42⟩) ::
 (200,⟨false,1,8,[.val (.map none)],.other⟩) ::
 (201,⟨false,1,24,[.nilS 1],.slice 200⟩) ::
 (227,⟨false,1,24,[.nilS 1],.slice 198⟩)::T
theorem tok5:TOk Tryz.prog T5:=
 tok_cons (tok1 (z:=.slice none 0 0) Tryz.isAgg59 (by kernel_rfl) rfl rfl rfl (by decide) Tryz.underlying59) <|
 tok_cons (tok1 (z:=.slice none 0 0) Tryz.isAgg60 (by kernel_rfl) rfl rfl rfl (by decide) Tryz.underlying60) <|
 tok_cons (tok1 (z:=.agg #[.slice none 0 0,.slice none 0 0,.slice none 0 0]) Tryz.isAgg62 (by kernel_rfl) rfl rfl rfl (by decide) ⟨_,Tryz.underlying62,rfl⟩) <|
 tok_cons (tok1 (z:=.slice none 0 0) Tryz.isAgg158 (by kernel_rfl) rfl rfl rfl (by decide) Tryz.underlying158) <|
 tok_cons (tok1 (z:=.agg #[.slice none 0 0,.slice none 0 0,.slice none 0 0]) Tryz.isAgg118 (by kernel_rfl) rfl rfl rfl (by decide) ⟨_,Tryz.underlying118,rfl⟩) <|
 tok_cons (tok1 (z:=.pointer none) Tryz.isAgg98 (by kernel_rfl) rfl rfl rfl (by decide) trivial) <|
 tok_cons (tok1 (z:=.agg #[.int .u32 0,.int .i32 0,.int .u32 0,.int .u8 0,.string ⟨#[]⟩,.slice none 0 0,.slice none 0 0,.slice none 0 0,.slice none 0 0]) Tryz.isAgg112 (by kernel_rfl) rfl rfl rfl (by decide) ⟨_,Tryz.underlying112,rfl⟩) <|
 tok_cons (tok1 (z:=.nilFunc) Tryz.isAgg144 (by kernel_rfl) rfl rfl rfl (by decide) trivial) <|
 tok_cons (tok1 (z:=.map none) Tryz.isAgg225 (by kernel_rfl) rfl rfl rfl (by decide) trivial) <|
 tok_cons (tok1 (z:=.pointer none) Tryz.isAgg157 (by kernel_rfl) rfl rfl rfl (by decide) trivial) <|
 tok_cons (tok1 (z:=.agg #[.slice none 0 0,.slice none 0 0,.slice none 0 0,.slice none 0 0,.bool false]) Tryz.isAgg160 (by kernel_rfl) rfl rfl rfl (by decide) ⟨_,Tryz.underlying160,rfl⟩) <|
 tok_cons (tok1 (z:=.slice none 0 0) Tryz.isAgg169 (by kernel_rfl) rfl rfl rfl (by decide) Tryz.underlying169) <|
 tok_cons (tok1 (z:=.nilFunc) Tryz.isAgg95 (by kernel_rfl) rfl rfl rfl (by decide) trivial) <|
 tok_cons (tok1 (z:=.agg #[.int .i64 0,.int .i64 0]) Tryz.isAgg148 (by kernel_rfl) rfl rfl rfl (by decide) ⟨_,Tryz.underlying148,rfl⟩) <|
 tok_cons (tok1 (z:=.agg #[.int .i64 0,.int .i64 0,.slice none 0 0]) Tryz.isAgg150 (by kernel_rfl) rfl rfl rfl (by decide) ⟨_,Tryz.underlying150,rfl⟩) <|
 tok_cons (tok1 (z:=.slice none 0 0) Tryz.isAgg151 (by kernel_rfl) rfl rfl rfl (by decide) Tryz.underlying151) <|
 tok_cons (tok1 (z:=.map none) Tryz.isAgg152 (by kernel_rfl) rfl rfl rfl (by decide) trivial) <|
 tok_cons (tok1 (z:=.slice none 0 0) Tryz.isAgg198 (by kernel_rfl) rfl rfl rfl (by decide) Tryz.underlying198) <|
 tok_cons (tok1 (z:=.map none) Tryz.isAgg200 (by kernel_rfl) rfl rfl rfl (by decide) trivial) <|
 tok_cons (tok1 (z:=.slice none 0 0) Tryz.isAgg201 (by kernel_rfl) rfl rfl rfl (by decide) Tryz.underlying201) <|
 tok_cons (tok1 (z:=.slice none 0 0) Tryz.isAgg227 (by kernel_rfl) rfl rfl rfl (by decide) Tryz.underlying227) <| tok
abbrev ints (l:List Int):PV:=.ro 1 (l.map fun z=>[.val (.int .i64 z)])
abbrev nats (l:List Nat):PV:=.ro 1 (l.map fun z:Nat=>[.val (.int .i64 (z:Int))])
abbrev namesV (l:List ByteArray):PV:=.ro 1 (l.map fun s=>[.val (.string s)])
abbrev rowsV (l:List (List Int)):PV:=.ro 1 (l.map fun r=>[ints r])
abbrev setsV (l:List (List Nat)):PV:=.ro 1 (l.map fun r=>[nats r])
abbrev finV (l:List Bool):PV:=.ro 1 (l.map fun b=>[.val (.bool b)])
abbrev nm0:AV:=.pv (.nilS 1)
def Au.cells (d:Au):List AV:=[.pv (namesV d.names),.pv (rowsV d.next),.pv (finV d.final)]
def Au.av (d:Au):AV:=.agg d.cells
end Go.Proofs.D
