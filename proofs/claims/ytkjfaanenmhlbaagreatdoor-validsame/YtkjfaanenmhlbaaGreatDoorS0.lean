/-
  NODES AND COMPLEMENTS, as the program has them.
-/
import Derived.Test.YtkjfaanenmhlbaaGreatDoorZ0
import Derived.Test.YtkjfaanenmhlbaaGreatDoorP2
import Derived.Test.YtkjfaanenmhlbaaGreatDoorAbsR
set_option linter.unusedVariables false
set_option linter.unusedSimpArgs false
namespace Go.Proofs.D
open Go Go.Abs
def T3:TT:=(48,⟨true,5,104,[.val (.string ⟨#[]⟩),.val (.string ⟨#[]⟩),.nilS 1,.nilS 2,.nilS 5],.str [(0,9),(1,9),(2,23),(3,45),(4,46)]⟩) ::
 (46,⟨false,1,24,[.nilS 5],.slice 48⟩) ::
 (56,⟨true,2,32,[.val (.string ⟨#[]⟩),.val (.string ⟨#[]⟩)],.str [(0,9),(1,9)]⟩) ::
 (45,⟨false,1,24,[.nilS 2],.slice 56⟩) ::
 (149,⟨true,2,32,[.val (.pointer none),.nilS 1],.str [(0,146),(1,147)]⟩) ::
 (146,⟨false,1,8,[.val (.pointer none)],.other⟩) ::
 (27,⟨true,6,104,[.val (.int .u8 0),.val (.string ⟨#[]⟩),.val (.string ⟨#[]⟩),.val (.string ⟨#[]⟩),.nilS 1,.nilS 1],.str [(0,5),(1,9),(2,9),(3,9),(4,23),(5,23)]⟩)::T
theorem tok3:TOk Tryz.prog T3:=
 tok_cons (tok1 (z:=.agg #[.string ⟨#[]⟩,.string ⟨#[]⟩,.slice none 0 0,.slice none 0 0,.slice none 0 0]) Tryz.isAgg48 (by kernel_rfl) rfl rfl rfl (by decide) ⟨_,Tryz.underlying48,rfl⟩) <|
 tok_cons (tok1 (z:=.slice none 0 0) Tryz.isAgg46 (by kernel_rfl) rfl rfl rfl (by decide) Tryz.underlying46) <|
 tok_cons (tok1 (z:=.agg #[.string ⟨#[]⟩,.string ⟨#[]⟩]) Tryz.isAgg56 (by kernel_rfl) rfl rfl rfl (by decide) ⟨_,Tryz.underlying56,rfl⟩) <|
 tok_cons (tok1 (z:=.slice none 0 0) Tryz.isAgg45 (by kernel_rfl) rfl rfl rfl (by decide) Tryz.underlying45) <|
 tok_cons (tok1 (z:=.agg #[.pointer none,.slice none 0 0]) Tryz.isAgg149 (by kernel_rfl) rfl rfl rfl (by decide) ⟨_,Tryz.underlying149,rfl⟩) <|
 tok_cons (tok1 (z:=.pointer none) Tryz.isAgg146 (by kernel_rfl) rfl rfl rfl (by decide) trivial) <|
 tok_cons (tok1 (z:=.agg #[.int .u8 0,.string ⟨#[]⟩,.string ⟨#[]⟩,.string ⟨#[]⟩,.slice none 0 0,.slice none 0 0]) Tryz.isAgg27 (by kernel_rfl) rfl rfl rfl (by decide) ⟨_,Tryz.underlying27,rfl⟩) <| tok
abbrev strs (m:List ByteArray):PV:=.ro 1 (m.map fun s=>[.val (.string s)])
abbrev pairs (a:List (ByteArray × ByteArray)):PV:=.ro 2 (a.map fun p=>[.val (.string p.1),.val (.string p.2)])
def N.pv:N→List PV
 |.mk k t m a kids=>[.val (.string k),.val (.string t),strs m,pairs a,.ro 5 (kids.attach.map fun x=>x.1.pv)]
termination_by e=>SizeOf.sizeOf e
decreasing_by exact N.kids_lt (e:=.mk k t m a kids) x.2
abbrev nodes (l:List N):PV:=.ro 5 (l.map N.pv)
theorem N.pv_eq (n:N):n.pv = [.val (.string n.kind),.val (.string n.text),strs n.marks,pairs n.attrs,nodes n.kids]:=by
 cases n;simp [N.pv,N.kind,N.text,N.marks,N.attrs,N.kids]
def N.cells (n:N):List AV:=[vS n.kind,vS n.text,.pv (strs n.marks),.pv (pairs n.attrs),.pv (nodes n.kids)]
def N.av (n:N):AV:=.agg n.cells
def Ent.pv (e:Ent):List PV:=[.val (.bool e.has),.val (.string e.value),nodes e.rest]
def Ent.cells (e:Ent):List AV:=[vB e.has,vS e.value,.pv (nodes e.rest)]
def Ent.av (e:Ent):AV:=.agg e.cells
abbrev M47:Nat:=140737488355328
def N.small:N→Prop
 |.mk k t m a kids=>k.size≤M47∧t.size≤M47∧(∀s∈m,s.size≤M47)∧(∀p∈a,p.1.size≤M47∧p.2.size≤M47)∧go kids
where go:List N→Prop
 |[]=>True
 |k::l=>k.small∧go l
theorem small_go:∀ {l:List N},N.small.go l↔∀x∈l,x.small
 |[]=>by simp [N.small.go]
 |x::l=>by simp [N.small.go,small_go (l:=l)]
theorem N.small_eq (n:N):n.small↔n.kind.size≤M47∧n.text.size≤M47∧(∀s∈n.marks,s.size≤M47)∧(∀p∈n.attrs,p.1.size≤M47∧p.2.size≤M47)∧∀x∈n.kids,x.small:=by
 obtain ⟨k,t,m,a,l⟩:=n;simp only [N.small,small_go];rfl
open Go.RowKit
def T4:TT:=(25,⟨true,2,48,[.nilS 5,.nilS 1],.str [(0,22),(1,23)]⟩) ::
 (22,⟨false,1,24,[.nilS 5],.slice 66⟩) ::
 (66,⟨true,5,88,[.val (.string ⟨#[]⟩),.val (.int .u8 0),.val (.string ⟨#[]⟩),.nilS 3,.nilS 2],.str [(0,9),(1,63),(4,64)]⟩) ::
 (64,⟨false,1,24,[.nilS 2],.slice 70⟩) ::
 (70,⟨true,2,40,[.val (.string ⟨#[]⟩),.nilS 1],.str [(0,9),(1,23)]⟩) ::
 (35,⟨true,2,48,[.nilS 5,.nilS 1],.str [(0,33),(1,23)]⟩) ::
 (33,⟨false,1,24,[.nilS 5],.slice 108⟩) ::
 (108,⟨true,5,88,[.val (.string ⟨#[]⟩),.val (.int .u8 0),.val (.string ⟨#[]⟩),.nilS 3,.nilS 2],.str [(0,9),(1,105),(4,106)]⟩) ::
 (106,⟨false,1,24,[.nilS 2],.slice 179⟩) ::
 (179,⟨true,2,40,[.val (.string ⟨#[]⟩),.nilS 1],.str [(0,9),(1,23)]⟩)::T3
theorem tok4:TOk Tryz.prog T4:=
 tok_cons (tok1 (z:=.agg #[.slice none 0 0,.slice none 0 0]) Tryz.isAgg25 (by kernel_rfl) rfl rfl rfl (by decide) ⟨_,Tryz.underlying25,rfl⟩) <|
 tok_cons (tok1 (z:=.slice none 0 0) Tryz.isAgg22 (by kernel_rfl) rfl rfl rfl (by decide) Tryz.underlying22) <|
 tok_cons (tok1 (z:=.agg #[.string ⟨#[]⟩,.int .u8 0,.string ⟨#[]⟩,.slice none 0 0,.slice none 0 0]) Tryz.isAgg66 (by kernel_rfl) rfl rfl rfl (by decide) ⟨_,Tryz.underlying66,rfl⟩) <|
 tok_cons (tok1 (z:=.slice none 0 0) Tryz.isAgg64 (by kernel_rfl) rfl rfl rfl (by decide) Tryz.underlying64) <|
 tok_cons (tok1 (z:=.agg #[.string ⟨#[]⟩,.slice none 0 0]) Tryz.isAgg70 (by kernel_rfl) rfl rfl rfl (by decide) ⟨_,Tryz.underlying70,rfl⟩) <|
 tok_cons (tok1 (z:=.agg #[.slice none 0 0,.slice none 0 0]) Tryz.isAgg35 (by kernel_rfl) rfl rfl rfl (by decide) ⟨_,Tryz.underlying35,rfl⟩) <|
 tok_cons (tok1 (z:=.slice none 0 0) Tryz.isAgg33 (by kernel_rfl) rfl rfl rfl (by decide) Tryz.underlying33) <|
 tok_cons (tok1 (z:=.agg #[.string ⟨#[]⟩,.int .u8 0,.string ⟨#[]⟩,.slice none 0 0,.slice none 0 0]) Tryz.isAgg108 (by kernel_rfl) rfl rfl rfl (by decide) ⟨_,Tryz.underlying108,rfl⟩) <|
 tok_cons (tok1 (z:=.slice none 0 0) Tryz.isAgg106 (by kernel_rfl) rfl rfl rfl (by decide) Tryz.underlying106) <|
 tok_cons (tok1 (z:=.agg #[.string ⟨#[]⟩,.slice none 0 0]) Tryz.isAgg179 (by kernel_rfl) rfl rfl rfl (by decide) ⟨_,Tryz.underlying179,rfl⟩) <| tok3
end Go.Proofs.D
