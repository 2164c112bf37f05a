/-
  TYPES of schemas and of tables of states, together; what is granted, together.
-/
import Derived.Test.YtibegggijdahdaaGreatDoorS0
import Derived.Test.YtibegggijdahdaaGreatDoorG0
import Derived.Test.YtibegggijdahdaaGreatDoorB3
import Derived.Test.YtibegggijdahdaaGreatDoorH8
set_option linter.unusedVariables false
set_option linter.unusedSimpArgs false
namespace Go.Proofs.D
open Go Go.Abs Go.RowKit
def T9:TT:=(79,⟨true,2,32,[.val (.pointer none),.nilS 1],.str [(0,76),(1,77)]⟩) ::
 (76,⟨false,1,8,[.val (.pointer none)],.other⟩)::T5
theorem tok9:TOk Tryz.prog T9:=
 tok_cons (tok1 (z:=.agg #[.pointer none,.slice none 0 0]) Tryz.isAgg79 (by kernel_rfl) rfl rfl rfl (by decide) ⟨_,Tryz.underlying79,rfl⟩) <|
 tok_cons (tok1 (z:=.pointer none) Tryz.isAgg76 (by kernel_rfl) rfl rfl rfl (by decide) trivial) <| tok5
def T8:TT:=(25,⟨true,2,48,[.nilS 5,.nilS 1],.str [(0,22),(1,23)]⟩) ::
 (22,⟨false,1,24,[.nilS 5],.slice 45⟩) ::
 (45,⟨true,5,88,[.val (.string ⟨#[]⟩),.val (.int .u8 0),.val (.string ⟨#[]⟩),.nilS 3,.nilS 2],.str [(0,9),(1,42),(4,43)]⟩) ::
 (43,⟨false,1,24,[.nilS 2],.slice 51⟩) ::
 (51,⟨true,2,40,[.val (.string ⟨#[]⟩),.nilS 1],.str [(0,9),(1,23)]⟩) ::
 (32,⟨true,2,48,[.nilS 5,.nilS 1],.str [(0,30),(1,23)]⟩) ::
 (30,⟨false,1,24,[.nilS 5],.slice 72⟩) ::
 (72,⟨true,5,88,[.val (.string ⟨#[]⟩),.val (.int .u8 0),.val (.string ⟨#[]⟩),.nilS 3,.nilS 2],.str [(0,9),(1,69),(4,70)]⟩) ::
 (70,⟨false,1,24,[.nilS 2],.slice 117⟩) ::
 (117,⟨true,2,40,[.val (.string ⟨#[]⟩),.nilS 1],.str [(0,9),(1,23)]⟩)::T9
theorem tok8:TOk Tryz.prog T8:=
 tok_cons (tok1 (z:=.agg #[.slice none 0 0,.slice none 0 0]) Tryz.isAgg25 (by kernel_rfl) rfl rfl rfl (by decide) ⟨_,Tryz.underlying25,rfl⟩) <|
 tok_cons (tok1 (z:=.slice none 0 0) Tryz.isAgg22 (by kernel_rfl) rfl rfl rfl (by decide) Tryz.underlying22) <|
 tok_cons (tok1 (z:=.agg #[.string ⟨#[]⟩,.int .u8 0,.string ⟨#[]⟩,.slice none 0 0,.slice none 0 0]) Tryz.isAgg45 (by kernel_rfl) rfl rfl rfl (by decide) ⟨_,Tryz.underlying45,rfl⟩) <|
 tok_cons (tok1 (z:=.slice none 0 0) Tryz.isAgg43 (by kernel_rfl) rfl rfl rfl (by decide) Tryz.underlying43) <|
 tok_cons (tok1 (z:=.agg #[.string ⟨#[]⟩,.slice none 0 0]) Tryz.isAgg51 (by kernel_rfl) rfl rfl rfl (by decide) ⟨_,Tryz.underlying51,rfl⟩) <|
 tok_cons (tok1 (z:=.agg #[.slice none 0 0,.slice none 0 0]) Tryz.isAgg32 (by kernel_rfl) rfl rfl rfl (by decide) ⟨_,Tryz.underlying32,rfl⟩) <|
 tok_cons (tok1 (z:=.slice none 0 0) Tryz.isAgg30 (by kernel_rfl) rfl rfl rfl (by decide) Tryz.underlying30) <|
 tok_cons (tok1 (z:=.agg #[.string ⟨#[]⟩,.int .u8 0,.string ⟨#[]⟩,.slice none 0 0,.slice none 0 0]) Tryz.isAgg72 (by kernel_rfl) rfl rfl rfl (by decide) ⟨_,Tryz.underlying72,rfl⟩) <|
 tok_cons (tok1 (z:=.slice none 0 0) Tryz.isAgg70 (by kernel_rfl) rfl rfl rfl (by decide) Tryz.underlying70) <|
 tok_cons (tok1 (z:=.agg #[.string ⟨#[]⟩,.slice none 0 0]) Tryz.isAgg117 (by kernel_rfl) rfl rfl rfl (by decide) ⟨_,Tryz.underlying117,rfl⟩) <| tok9
def tab2:Granted:=⟨fun w F=>tabs.p w F∧tab10.p w F,fun h hw hF=>⟨tabs.mono h.1 hw hF,tab10.mono h.2 hw hF⟩⟩
theorem Fun.up {P:Program}{Gl Gl':Granted}{g:FuncId}{args:List AV}{pre:List (Option Blk)}{v:AV}{post:List (Option Blk)}(h:∀w F,Gl'.p w F→Gl.p w F)(hf:Fun P Gl g args pre v post):Fun P Gl' g args pre v post:=
 ⟨hf.fn,fun w F hd cargs hg=>hf.calls w F hd cargs (h _ _ hg)⟩
theorem upT {P:Program}{g:FuncId}{args:List AV}{pre:List (Option Blk)}{v:AV}{post:List (Option Blk)}(hf:Fun P tabs g args pre v post):Fun P tab2 g args pre v post:=Fun.up (fun _ _ h=>h.1) hf
theorem up10 {P:Program}{g:FuncId}{args:List AV}{pre:List (Option Blk)}{v:AV}{post:List (Option Blk)}(hf:Fun P tab10 g args pre v post):Fun P tab2 g args pre v post:=Fun.up (fun _ _ h=>h.2) hf
end Go.Proofs.D
