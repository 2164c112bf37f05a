/-
  NODES AND COMPLEMENTS, as the program has them.
-/
import Derived.Test.YtibegggijdahdaaGreatDoorZ0
import Derived.Test.YtibegggijdahdaaGreatDoorP2
import Derived.Test.YtibegggijdahdaaGreatDoorAbsMB
set_option linter.unusedVariables false
set_option linter.unusedSimpArgs false
namespace Go.Proofs.D
open Go Go.Abs
def T3:TT:=(79,⟨true,2,32,[.val (.pointer none),.nilS 1],.str [(0,76),(1,77)]⟩) ::
 (76,⟨false,1,8,[.val (.pointer none)],.other⟩)::T
theorem tok3:TOk Tryz.prog T3:=
 tok_cons (tok1 (z:=.agg #[.pointer none,.slice none 0 0]) Tryz.isAgg79 (by kernel_rfl) rfl rfl rfl (by decide) ⟨_,Tryz.underlying79,rfl⟩) <|
 tok_cons (tok1 (z:=.pointer none) Tryz.isAgg76 (by kernel_rfl) rfl rfl rfl (by decide) trivial) <| tok
abbrev strs (m:List ByteArray):PV:=.ro 1 (m.map fun s=>[.val (.string s)])
abbrev pairs (a:List (ByteArray × ByteArray)):PV:=.ro 2 (a.map fun p=>[.val (.string p.1),.val (.string p.2)])
def N.pv:N→List PV
 |.mk k t m a kids=>[.val (.string k),.val (.string t),strs m,pairs a,.ro 5 (kids.attach.map fun x=>x.1.pv)]
termination_by e=>SizeOf.sizeOf e
decreasing_by exact N.kids_lt (e:=.mk k t m a kids) x.2
abbrev nodes (l:List N):PV:=.ro 5 (l.map N.pv)
theorem N.pv_eq (n:N):n.pv = [.val (.string n.kind),.val (.string n.text),strs n.marks,pairs n.attrs,nodes n.kids]:=by
 cases n;simp [N.pv,N.kind,N.text,N.marks,N.attrs,N.kids]
def N.cells (n:N):List AV:=[vS n.kind,vS n.text,.pv (strs n.marks),.pv (pairs n.attrs),.pv (nodes n.kids)]
def N.av (n:N):AV:=.agg n.cells
def Ent.pv (e:Ent):List PV:=[.val (.bool e.has),.val (.string e.value),nodes e.rest]
def Ent.cells (e:Ent):List AV:=[vB e.has,vS e.value,.pv (nodes e.rest)]
def Ent.av (e:Ent):AV:=.agg e.cells
abbrev M47:Nat:=140737488355328
def N.small:N→Prop
 |.mk k t m a kids=>k.size≤M47∧t.size≤M47∧(∀s∈m,s.size≤M47)∧(∀p∈a,p.1.size≤M47∧p.2.size≤M47)∧go kids
where go:List N→Prop
 |[]=>True
 |k::l=>k.small∧go l
open Go.RowKit
def T4:TT:=(25,⟨true,2,48,[.nilS 5,.nilS 1],.str [(0,22),(1,23)]⟩) ::
 (22,⟨false,1,24,[.nilS 5],.slice 45⟩) ::
 (45,⟨true,5,88,[.val (.string ⟨#[]⟩),.val (.int .u8 0),.val (.string ⟨#[]⟩),.nilS 3,.nilS 2],.str [(0,9),(1,42),(4,43)]⟩) ::
 (43,⟨false,1,24,[.nilS 2],.slice 51⟩) ::
 (51,⟨true,2,40,[.val (.string ⟨#[]⟩),.nilS 1],.str [(0,9),(1,23)]⟩) ::
 (32,⟨true,2,48,[.nilS 5,.nilS 1],.str [(0,30),(1,23)]⟩) ::
 (30,⟨false,1,24,[.nilS 5],.slice 72⟩) ::
 (72,⟨true,5,88,[.val (.string ⟨#[]⟩),.val (.int .u8 0),.val (.string ⟨#[]⟩),.nilS 3,.nilS 2],.str [(0,9),(1,69),(4,70)]⟩) ::
 (70,⟨false,1,24,[.nilS 2],.slice 117⟩) ::
 (117,⟨true,2,40,[.val (.string ⟨#[]⟩),.nilS 1],.str [(0,9),(1,23)]⟩)::T3
theorem tok4:TOk Tryz.prog T4:=
 tok_cons (tok1 (z:=.agg #[.slice none 0 0,.slice none 0 0]) Tryz.isAgg25 (by kernel_rfl) rfl rfl rfl (by decide) ⟨_,Tryz.underlying25,rfl⟩) <|
 tok_cons (tok1 (z:=.slice none 0 0) Tryz.isAgg22 (by kernel_rfl) rfl rfl rfl (by decide) Tryz.underlying22) <|
 tok_cons (tok1 (z:=.agg #[.string ⟨#[]⟩,.int .u8 0,.string ⟨#[]⟩,.slice none 0 0,.slice none 0 0]) Tryz.isAgg45 (by kernel_rfl) rfl rfl rfl (by decide) ⟨_,Tryz.underlying45,rfl⟩) <|
 tok_cons (tok1 (z:=.slice none 0 0) Tryz.isAgg43 (by kernel_rfl) rfl rfl rfl (by decide) Tryz.underlying43) <|
 tok_cons (tok1 (z:=.agg #[.string ⟨#[]⟩,.slice none 0 0]) Tryz.isAgg51 (by kernel_rfl) rfl rfl rfl (by decide) ⟨_,Tryz.underlying51,rfl⟩) <|
 tok_cons (tok1 (z:=.agg #[.slice none 0 0,.slice none 0 0]) Tryz.isAgg32 (by kernel_rfl) rfl rfl rfl (by decide) ⟨_,Tryz.underlying32,rfl⟩) <|
 tok_cons (tok1 (z:=.slice none 0 0) Tryz.isAgg30 (by kernel_rfl) rfl rfl rfl (by decide) Tryz.underlying30) <|
 tok_cons (tok1 (z:=.agg #[.string ⟨#[]⟩,.int .u8 0,.string ⟨#[]⟩,.slice none 0 0,.slice none 0 0]) Tryz.isAgg72 (by kernel_rfl) rfl rfl rfl (by decide) ⟨_,Tryz.underlying72,rfl⟩) <|
 tok_cons (tok1 (z:=.slice none 0 0) Tryz.isAgg70 (by kernel_rfl) rfl rfl rfl (by decide) Tryz.underlying70) <|
 tok_cons (tok1 (z:=.agg #[.string ⟨#[]⟩,.slice none 0 0]) Tryz.isAgg117 (by kernel_rfl) rfl rfl rfl (by decide) ⟨_,Tryz.underlying117,rfl⟩) <| tok3
end Go.Proofs.D
