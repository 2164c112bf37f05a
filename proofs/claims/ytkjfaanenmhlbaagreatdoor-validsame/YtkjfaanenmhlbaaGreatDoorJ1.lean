/-
  TYPES of judges and of what they hold; a content as it lies in memory, ahead of its table and behind it.
-/
import Derived.Test.YtkjfaanenmhlbaaGreatDoorB8
import Derived.Test.YtkjfaanenmhlbaaGreatDoorH29p
import Derived.Test.YtkjfaanenmhlbaaGreatDoorS1
import Derived.Test.YtkjfaanenmhlbaaGreatDoorAbsMB
set_option linter.unusedVariables false
set_option linter.unusedSimpArgs false
namespace Go.Proofs.D
open Go Go.Abs Go.RowKit
def T7:TT:=(116,⟨false,1,8,[.val (.pointer none)],.other⟩) ::
 (181,⟨false,1,8,[.val (.map none)],.other⟩) ::
 (183,⟨true,2,32,[.val (.map none),.nilS 1],.str [(0,181),(1,23)]⟩) ::
 (184,⟨false,1,8,[.val (.pointer none)],.other⟩) ::
 (196,⟨true,3,12,[.val (.int .u32 0),.val (.int .i32 0),.val (.int .u32 0)],.str [(0,186),(0,190),(1,194)]⟩) ::
 (198,⟨true,11,176,[.val (.string ⟨#[]⟩),.val (.int .u8 0),.val (.string ⟨#[]⟩),.nilS 3,.nilS 2,.val (.int .u32 0),.val (.int .i32 0),.val (.int .u32 0),.nilS 1,.nilS 1,.nilS 1],.str [(0,66),(5,196),(8,137)]⟩)::T8
theorem tok7:TOk Tryz.prog T7:=
 tok_cons (tok1 (z:=.pointer none) Tryz.isAgg116 (by kernel_rfl) rfl rfl rfl (by decide) trivial) <|
 tok_cons (tok1 (z:=.map none) Tryz.isAgg181 (by kernel_rfl) rfl rfl rfl (by decide) trivial) <|
 tok_cons (tok1 (z:=.agg #[.map none,.slice none 0 0]) Tryz.isAgg183 (by kernel_rfl) rfl rfl rfl (by decide) ⟨_,Tryz.underlying183,rfl⟩) <|
 tok_cons (tok1 (z:=.pointer none) Tryz.isAgg184 (by kernel_rfl) rfl rfl rfl (by decide) trivial) <|
 tok_cons (tok1 (z:=.agg #[.int .u32 0,.int .i32 0,.int .u32 0]) Tryz.isAgg196 (by kernel_rfl) rfl rfl rfl (by decide) ⟨_,Tryz.underlying196,rfl⟩) <|
 tok_cons (tok1 (z:=.agg #[.string ⟨#[]⟩,.int .u8 0,.string ⟨#[]⟩,.slice none 0 0,.slice none 0 0,.int .u32 0,.int .i32 0,.int .u32 0,.slice none 0 0,.slice none 0 0,.slice none 0 0]) Tryz.isAgg198 (by kernel_rfl) rfl rfl rfl (by decide) ⟨_,Tryz.underlying198,rfl⟩) <| tok8
def contA (k:Kd)(a b:Int)(d:List AV):List AV:=k.cells++.pv (.val (.int .u32 a)) :: .pv (.val (.int .i32 b)) :: .pv (.val (.int .u32 0))::d
def contC (k:Kd)(a b:Int)(d:List PV):List PV:=k.pv++.val (.int .u32 a) :: .val (.int .i32 b) :: .val (.int .u32 0)::d
def Au.pvs (d:Au):List PV:=[namesV d.names,rowsV d.next,finV d.final]
theorem cont_map (k:Kd)(a b:Int)(d:List PV):(contC k a b d).map AV.pv=contA k a b (d.map .pv):=by
 simp [contC,contA,Kd.pv,Kd.cells,E.pv_eq,E.cells]
abbrev nil3:List PV:=[.nilS 1,.nilS 1,.nilS 1]
def mayC (k:Kd)(cs:List PV):Prop:=cs=contC k 0 0 nil3∨cs=contC k 1 0 k.content.dfa.pvs
end Go.Proofs.D
