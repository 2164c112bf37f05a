/-
  SCHEMAS: attributes, kinds, and what is right of them.
-/
import Derived.Test.YtkjfaanenmhlbaaGreatDoorP1
import Derived.Test.YtkjfaanenmhlbaaGreatDoorG12
import Derived.Test.YtkjfaanenmhlbaaGreatDoorL6
set_option linter.unusedVariables false
set_option linter.unusedSimpArgs false
namespace Go.Proofs.D
open Go Go.Abs
structure Dc where
 name:ByteArray
 vals:List ByteArray
deriving DecidableEq
structure Kd where
 name:ByteArray
 content:E
 attrs:List Dc
structure Sc where
 kinds:List Kd
 marks:List ByteArray
abbrev Dc.pv (d:Dc):List PV:=[.val (.string d.name),.ro 1 (d.vals.map fun s=>[.val (.string s)])]
abbrev dcs (l:List Dc):PV:=.ro 2 (l.map Dc.pv)
def Kd.pv (k:Kd):List PV:=.val (.string k.name)::(k.content.pv++[dcs k.attrs])
abbrev kds (l:List Kd):PV:=.ro 5 (l.map Kd.pv)
abbrev Dc.av (d:Dc):AV:=.agg [.pv (.val (.string d.name)),.pv (.ro 1 (d.vals.map fun s=>[.val (.string s)]))]
def Kd.cells (k:Kd):List AV:=.pv (.val (.string k.name))::(k.content.cells++[.pv (dcs k.attrs)])
def Kd.av (k:Kd):AV:=.agg k.cells
def Sc.cells (s:Sc):List AV:=[.pv (kds s.kinds),.pv (.ro 1 (s.marks.map fun s=>[.val (.string s)]))]
def Sc.av (s:Sc):AV:=.agg s.cells
def firstAt {α:Type}(q:α→Bool):List α→Nat→Int
 |[],_=>-1
 |x::l,i=>if q x=true then (i:Int) else firstAt q l (i+1)
theorem firstAt_any {α:Type}(q:α→Bool)(l:List α)(i:Nat):decide (firstAt q l i≥0)=l.any q:=by
 induction l generalizing i with
 |nil=>simp [firstAt]
 |cons x l ih=>
  simp only [firstAt,List.any_cons];split
  ·rename_i h;simp [h]
  ·rename_i h;simp at h;simp only [h,Bool.false_or];exact ih (i+1)
theorem firstAt_lt {α:Type}(q:α→Bool)(l:List α)(i:Nat):firstAt q l i<0∨∃j,firstAt q l i=((i+j:Nat):Int)∧∃h:j<l.length,q l[j]=true:=by
 induction l generalizing i with
 |nil=>simp [firstAt]
 |cons x l ih=>
  simp only [firstAt];split
  ·rename_i h;exact .inr ⟨0,by simp,by simp,by simpa using h⟩
  ·rcases ih (i+1) with h|⟨j,h1,h2,h3⟩
   ·exact .inl h
   ·exact .inr ⟨j+1,by rw [h1];congr 1;omega,by simp;omega,by simpa using h3⟩
def isKind (name:ByteArray)(k:Kd):Bool:=decide (k.name=name)
def Sc.place (s:Sc)(name:ByteArray):Int:=firstAt (isKind name) s.kinds 0
def valsFrom (l:List ByteArray):Nat→List ByteArray→Bool
 |_,[]=>true
 |i,v::r=>isName v&&!(l.take i).any (fun x=>decide (v=x))&&valsFrom l (i+1) r
def valsOk (l:List ByteArray):Bool:=valsFrom l 0 l
def Dc.ok (d:Dc):Bool:=valsOk d.vals&&decide ((d.vals.length:Int)≤6)
def Sc.unknown (s:Sc)(name:ByteArray):Bool:=decide (s.place name<0)&&!decide (name=textK)
def Kd.ok (k:Kd)(s:Sc):Bool:=k.attrs.all Dc.ok&&(isName k.name&&(rise (k.attrs.map (·.name))&&(k.content.right&&!(k.content.names.any s.unknown))))
def kindsFrom (s:Sc):Nat→List Kd→Bool
 |_,[]=>true
 |i,k::r=>decide (s.place k.name=(i:Int))&&k.ok s&&kindsFrom s (i+1) r
def Sc.ok (s:Sc):Bool:=kindsFrom s 0 s.kinds&&(decide (0<(s.kinds.length:Int))&&(decide ((s.kinds.length:Int)≤12)&&(decide ((s.marks.length:Int)≤12)&&rise s.marks)))
end Go.Proofs.D
