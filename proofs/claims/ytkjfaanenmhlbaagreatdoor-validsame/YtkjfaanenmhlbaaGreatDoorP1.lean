/-
  NODES, and how they are written: what is written is read in one way alone.
-/
import Derived.Test.YtkjfaanenmhlbaaGreatDoorD16
import Derived.Lib.ValidU
set_option linter.unusedVariables false
set_option linter.unusedSimpArgs false
namespace Go.Proofs.D
open Go Go.Abs
abbrev Bs:=List UInt8
theorem bsExt {s t:ByteArray}(h:s.data.toList=t.data.toList):s=t:=by
 obtain ⟨⟨l⟩⟩:=s;obtain ⟨⟨m⟩⟩:=t;simp at h;rw [h]
def Stop (p:UInt8→Bool)(r:Bs):Prop:=∀c,r.head?=some c→p c=false
def esc:Bs→Bs
 |[]=>[]
 |c::l=>if c=92∨c=34 then 92::c::esc l else c::esc l
def quoteB (s:Bs):Bs:=34::esc s++[34]
def sepTail (s:UInt8)(l:List Bs):Bs:=l.flatMap fun x=>s::x
def sepBy (s:UInt8):List Bs→Bs
 |[]=>[]
 |x::l=>x++sepTail s l
inductive N where
 |mk (kind text:ByteArray) (marks:List ByteArray) (attrs:List (ByteArray × ByteArray)) (kids:List N)
def N.kind:N→ByteArray | .mk a _ _ _ _=>a
def N.text:N→ByteArray | .mk _ a _ _ _=>a
def N.marks:N→List ByteArray | .mk _ _ a _ _=>a
def N.attrs:N→List (ByteArray × ByteArray) | .mk _ _ _ a _=>a
def N.kids:N→List N | .mk _ _ _ _ a=>a
theorem N.kids_lt {e x:N}(h:x∈e.kids):SizeOf.sizeOf x<SizeOf.sizeOf e:=by
 obtain ⟨a,b,c,d,kids⟩:=e;have:=List.sizeOf_lt_of_mem h;have e:(N.mk a b c d kids).kids=kids:=rfl;rw [e] at this;simp;omega
def textK:ByteArray:=⟨#[116,101,120,116]⟩
def notUp (s q:ByteArray):Bool:=Op.bytesLess s.toList q.toList || decide (s=q)
def riseFrom:Option ByteArray→List ByteArray→Bool
 |_,[]=>true
 |p,s::l=>isName s&&(match p with|none=>true|some q=>!notUp s q)&&riseFrom (some s) l
def rise (l:List ByteArray):Bool:=riseFrom none l
theorem rise_names:∀(l:List ByteArray) (p:Option ByteArray),riseFrom p l=true→∀s∈l,isName s=true
 |[],_,_,s,hs=>by cases hs
 |x::l,p,h,s,hs=>by
  simp only [riseFrom,Bool.and_eq_true] at h;rcases List.mem_cons.1 hs with rfl|hs
  ·exact h.1.1
  ·exact rise_names l _ h.2 s hs
def utfOk (s:ByteArray):Bool:=Lib.validD s.data.toList
def value (s:ByteArray):Bool:=decide ((s.size:Int)≤40)&&utfOk s
def N.isText (n:N):Bool:=decide (n.kind=textK)
def alike (a b:N):Bool:=a.isText&&b.isText&&decide (a.marks=b.marks)
def N.form:N→Bool
 |.mk k t m a kids=>if k=textK then !decide (t=⟨#[]⟩)&&utfOk t&&rise m&&decide (a = [])&&decide (kids.length=0)
  else a.all (fun p=>value p.2)&&isName k&&decide (t=⟨#[]⟩)&&decide (m = [])&&rise (a.map (·.1))&&go none kids
where go:Option N→List N→Bool
 |_,[]=>true
 |p,x::l=>x.form&&(match p with|none=>true|some q=>!alike q x)&&go (some x) l
theorem N.form_eq (n:N):n.form=if n.kind=textK then !decide (n.text=⟨#[]⟩)&&utfOk n.text&&rise n.marks&&decide (n.attrs = [])&&decide (n.kids.length=0)
 else n.attrs.all (fun p=>value p.2)&&isName n.kind&&decide (n.text=⟨#[]⟩)&&decide (n.marks = [])&&rise (n.attrs.map (·.1))&&N.form.go none n.kids:=by
 obtain ⟨⟩:=n;simp only [N.form];rfl
def headT (m:List ByteArray):Bs:=if m = [] then [] else 60::(sepBy 44 (m.map (·.data.toList))++[62])
def attrB (p:ByteArray × ByteArray):Bs:=p.1.data.toList++61::quoteB p.2.data.toList
def headA (a:List (ByteArray × ByteArray)):Bs:=if a = [] then [] else 40::(sepBy 32 (a.map attrB)++[41])
def N.w:N→Bs
 |.mk k t m a kids=>if k=textK then quoteB t.data.toList++headT m else k.data.toList++headA a++91::(go kids++[93])
where go:List N→Bs
 |[]=>[]
 |x::l=>x.w++go l
end Go.Proofs.D
