/-
  NODES, and how they are written: what is written is read in one way alone.
-/
import Derived.Test.YtibegggijdahdaaGreatDoorD16
import Derived.Lib.ValidU
import Derived.Lib.RuneCount
set_option linter.unusedVariables false
set_option linter.unusedSimpArgs false
namespace Go.Proofs.D
open Go Go.Abs
abbrev Bs:=List UInt8
theorem bsExt {s t:ByteArray}(h:s.data.toList=t.data.toList):s=t:=by
 obtain ⟨⟨l⟩⟩:=s;obtain ⟨⟨m⟩⟩:=t;simp at h;rw [h]
def Stop (p:UInt8→Bool)(r:Bs):Prop:=∀c,r.head?=some c→p c=false
def esc:Bs→Bs
 |[]=>[]
 |c::l=>if c=92∨c=34 then 92::c::esc l else c::esc l
def quoteB (s:Bs):Bs:=34::esc s++[34]
def sepTail (s:UInt8)(l:List Bs):Bs:=l.flatMap fun x=>s::x
def sepBy (s:UInt8):List Bs→Bs
 |[]=>[]
 |x::l=>x++sepTail s l
inductive N where
 |mk (kind text:ByteArray) (marks:List ByteArray) (attrs:List (ByteArray × ByteArray)) (kids:List N)
def N.kind:N→ByteArray | .mk a _ _ _ _=>a
def N.text:N→ByteArray | .mk _ a _ _ _=>a
def N.marks:N→List ByteArray | .mk _ _ a _ _=>a
def N.attrs:N→List (ByteArray × ByteArray) | .mk _ _ _ a _=>a
def N.kids:N→List N | .mk _ _ _ _ a=>a
theorem N.kids_lt {e x:N}(h:x∈e.kids):SizeOf.sizeOf x<SizeOf.sizeOf e:=by
 obtain ⟨a,b,c,d,kids⟩:=e;have:=List.sizeOf_lt_of_mem h;have e:(N.mk a b c d kids).kids=kids:=rfl;rw [e] at this;simp;omega
theorem N.ext {a b:N}(h1:a.kind=b.kind)(h2:a.text=b.text)(h3:a.marks=b.marks)(h4:a.attrs=b.attrs)(h5:a.kids=b.kids):a=b:=by
 obtain ⟨⟩:=a;obtain ⟨⟩:=b;simp only [N.kind,N.text,N.marks,N.attrs,N.kids] at h1 h2 h3 h4 h5;subst h1 h2 h3 h4 h5;rfl
def textK:ByteArray:=⟨#[116,101,120,116]⟩
def notUp (s q:ByteArray):Bool:=Op.bytesLess s.toList q.toList || decide (s=q)
def riseFrom:Option ByteArray→List ByteArray→Bool
 |_,[]=>true
 |p,s::l=>isName s&&(match p with|none=>true|some q=>!notUp s q)&&riseFrom (some s) l
def rise (l:List ByteArray):Bool:=riseFrom none l
theorem rise_names:∀(l:List ByteArray) (p:Option ByteArray),riseFrom p l=true→∀s∈l,isName s=true
 |[],_,_,s,hs=>by cases hs
 |x::l,p,h,s,hs=>by
  simp only [riseFrom,Bool.and_eq_true] at h;rcases List.mem_cons.1 hs with rfl|hs
  ·exact h.1.1
  ·exact rise_names l _ h.2 s hs
def utfOk (s:ByteArray):Bool:=Lib.validD s.data.toList
def value (s:ByteArray):Bool:=decide ((s.size:Int)≤40)&&utfOk s
def N.isText (n:N):Bool:=decide (n.kind=textK)
def alike (a b:N):Bool:=a.isText&&b.isText&&decide (a.marks=b.marks)
def N.form:N→Bool
 |.mk k t m a kids=>if k=textK then !decide (t=⟨#[]⟩)&&utfOk t&&rise m&&decide (a = [])&&decide (kids.length=0)
  else a.all (fun p=>value p.2)&&isName k&&decide (t=⟨#[]⟩)&&decide (m = [])&&rise (a.map (·.1))&&go none kids
where go:Option N→List N→Bool
 |_,[]=>true
 |p,x::l=>x.form&&(match p with|none=>true|some q=>!alike q x)&&go (some x) l
def headT (m:List ByteArray):Bs:=if m = [] then [] else 60::(sepBy 44 (m.map (·.data.toList))++[62])
def attrB (p:ByteArray × ByteArray):Bs:=p.1.data.toList++61::quoteB p.2.data.toList
def headA (a:List (ByteArray × ByteArray)):Bs:=if a = [] then [] else 40::(sepBy 32 (a.map attrB)++[41])
def N.w:N→Bs
 |.mk k t m a kids=>if k=textK then quoteB t.data.toList++headT m else k.data.toList++headA a++91::(go kids++[93])
where go:List N→Bs
 |[]=>[]
 |x::l=>x.w++go l
def low8 (c:UInt8):Bool:=decide (97≤c.toNat)&&decide (c.toNat≤122)
theorem name_low {s:ByteArray}(h:isName s=true):s.data.toList≠[]∧∀c∈s.data.toList,low8 c=true:=by
 simp only [isName,Bool.and_eq_true,decide_eq_true_eq,List.all_eq_true] at h;refine ⟨fun h0=>?_,fun c hc=>by simpa [low8] using h.1.2 c hc⟩;have h1:=h.1.1.1;have:s.size=s.data.toList.length:=Array.length_toList.symm;rw [this,h0] at h1;simp at h1
noncomputable instance:DecidableEq N:=fun a b=>Classical.propDecidable _
structure Ent where
 has:Bool
 value:ByteArray
 rest:List N
theorem Ent.ext' {a b:Ent}(h1:a.has=b.has)(h2:a.value=b.value)(h3:a.rest=b.rest):a=b:=by
 obtain ⟨⟩:=a;obtain ⟨⟩:=b;simp only at h1 h2 h3;subst h1 h2 h3;rfl
noncomputable instance:DecidableEq Ent:=fun a b=>Classical.propDecidable _
def xOf (l:List N):N:=.mk ⟨#[120]⟩ ⟨#[]⟩ [] [] l
def N.deep:N→Int
 |.mk k t m a kids=>if k=textK then 0 else wr .i64 (go kids 0+1)
where go:List N→Int→Int
 |[],d=>d
 |x::l,d=>go l (if d<x.deep then x.deep else d)
def N.size:N→Int
 |.mk k t m a kids=>if k=textK then Lib.runeCount t else wr .i64 (2+go kids 0)
where go:List N→Int→Int
 |[],d=>d
 |x::l,d=>go l (wr .i64 (d+x.size))
def N.check (n:N):Int:=if n.form=false then 2 else if 40<n.deep then 4 else if 4000<n.size then 5 else 0
def Ent.none (e:Ent):Bool:=decide (e.value=⟨#[]⟩)&&decide (e.rest.length=0)
def Ent.ok (e:Ent):Bool:=if e.has=true then Go.Proofs.D.value e.value&&decide ((xOf e.rest).check=0) else e.none
def Ent.w (e:Ent):Bs:=if e.has=true then 61::(quoteB e.value.data.toList++(if N.w.go e.rest = [] then [] else 91::(N.w.go e.rest++[93]))) else [45]
theorem bsz (s:ByteArray):s.data.toList.length=s.size:=Array.length_toList
theorem sepTail_len (s:UInt8)(l:List Bs):(sepTail s l).length=(l.map fun x=>1+x.length).sum:=by
 induction l with
 |nil=>rfl
 |cons x l ih=>
  simp only [sepTail,List.flatMap_cons,List.length_append,List.length_cons,List.map_cons,List.sum_cons] at ih ⊢;omega
theorem sepBy_len (s:UInt8)(l:List Bs):(sepBy s l).length≤(l.map fun x=>1+x.length).sum:=by
 cases l with
 |nil=>simp [sepBy]
 |cons x l=>
  simp only [sepBy,List.length_append,sepTail_len,List.map_cons,List.sum_cons];omega
def bytesOf (l:Bs):ByteArray:=⟨l.toArray⟩
end Go.Proofs.D
namespace Go.Proofs.D
open Go Go.Abs
theorem bytesOf_list (s:ByteArray):bytesOf s.data.toList=s:=bsExt (by simp [bytesOf])
end Go.Proofs.D
