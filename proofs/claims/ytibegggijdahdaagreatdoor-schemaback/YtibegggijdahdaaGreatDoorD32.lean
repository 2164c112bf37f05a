/-
  THE SECOND ANSWER: how many expressions are in one; what is a name.
-/
import Derived.Test.YtibegggijdahdaaGreatDoorZ0
import Derived.Test.YtibegggijdahdaaGreatDoorD16
import Derived.Test.YtibegggijdahdaaGreatDoorAbsMB
set_option linter.unusedVariables false
set_option linter.unusedSimpArgs false
namespace Go.Proofs.D
open Go Go.Abs
theorem f83 (Gl:Granted)(e:E):Fun Tryz.prog Gl 128 [e.av] [] (vI e.many) []:=by
 refine fun_of (T:=T) (n:=21) (rs:=[.tmp 2]) Tryz.func128 (by kernel_rfl) rfl rfl rfl tok mixed (by simp) fun C hC=>?_;refine hC.vc [] 60 ?_;simp [E.av,E.cells];refine go_lenB (.loc 1) 69 e.cells 2 3 (e.kids.map E.pv) (by simp [E.cells]) (by simp [E.cells]) fun hk=>?_;rw [List.length_map] at hk;refine go_loop (ι:={p:Nat × Int // p.1≤e.kids.length∧e.many=(e.kids.drop p.1).foldl (fun n x=>wr .i64 (n+x.many)) p.2}) (fun x=>⟨[(1,.ptr (.loc 1) 0),(3,vI x.1.2),(4,vI x.1.1)],[(.loc 1,some (.box 69 e.cells))]⟩) (fun x=>e.kids.length-x.1.1) ⟨(0,1),by simp only [List.drop_zero];exact ⟨Nat.zero_le _,E.many_eq e⟩⟩ [] (by simp [E.cells]) fun x ih=>?_;obtain ⟨⟨i,n⟩,hi,hn⟩:=x;simp only at hi hn ih;refine hC.vc [] 60 ?_;simp [E.cells];by_cases hlt:i<e.kids.length
 ·rw [foldl_drop _ _ _ hlt] at hn;simp [hlt,E.pv_eq e.kids[i]];refine hC.call [] (f83 Gl e.kids[i]) (by simp [E.av,E.cells]) ?_;refine hC.vc [] 40 ?_;simp;have hw:=wr64 ((i:Int)+1) (by omega);exact go_to [] (ih ⟨(i+1,_),hlt,hn⟩ (by simp;omega)) (by simp [hw,E.cells])
 ·simp [hlt];rw [hn,List.drop_eq_nil_of_le (by omega)];rfl
termination_by SizeOf.sizeOf e
decreasing_by exact E.kids_lt (by simp)
theorem f85 (Gl:Granted)(e:E):Fun Tryz.prog Gl 146 [e.av] [] (vB e.suffix) []:=by
 refine fun_of (T:=T) (n:=16) (rs:=[.tmp 2]) Tryz.func146 (by kernel_rfl) rfl rfl rfl tok mixed (by simp) fun C hC=>?_;refine hC.vc [] 60 ?_;simp [E.av,E.cells,E.suffix];by_cases h1:e.op=42
 ·simp [h1]
 ·by_cases h2:e.op=43
  ·simp [h2]
  ·simp [h1,h2]
theorem byteAt_list (s:ByteArray)(i:Nat)(h:i<s.size):byteAt s i=((s.data.toList[i]'(by simpa using h)).toNat:Int):=by
 rw [byteAt_eq];simp only [Int.toNat_natCast];rw [List.getD_eq_getElem?_getD,List.getElem?_eq_getElem (by simpa using h)];rfl
def lowAll (l:List UInt8):Bool:=l.all (fun c=>decide (97≤c.toNat)&&decide (c.toNat≤122))
theorem lowAll_cons (c:UInt8)(l:List UInt8):lowAll (c::l)=(decide (97≤(c.toNat:Int))&&decide ((c.toNat:Int)≤122)&&lowAll l):=by
 simp only [lowAll,List.all_cons];congr 2
 ·exact decide_eq_decide.2 (by omega)
 ·exact decide_eq_decide.2 (by omega)
theorem isName_low (s:ByteArray):isName s=(decide (1≤(s.size:Int))&&decide ((s.size:Int)≤8)&&lowAll s.data.toList&&!decide (s=⟨#[116,101,120,116]⟩)):=by
 have e1:decide (1≤(s.size:Int))=decide (1≤s.size):=decide_eq_decide.2 (by omega);have e2:decide ((s.size:Int)≤8)=decide (s.size≤8):=decide_eq_decide.2 (by omega);rw [e1,e2];rfl
theorem f100 (Gl:Granted)(s:ByteArray)(hs:s.size≤9223372036854775807):Fun Tryz.prog Gl 86 [vS s] [] (vB (isName s)) []:=by
 refine fun_of (T:=T) (n:=32) (rs:=[.tmp 2]) Tryz.func86 (by kernel_rfl) rfl rfl rfl tok mixed (by simp) fun C hC=>?_;refine hC.vc [] 10 ?_;simp;refine go_loop (ι:={i:Nat // i≤s.size∧lowAll s.data.toList=lowAll (s.data.toList.drop i)}) (fun x=>⟨[(0,vS s),(3,vI x.1)],[]⟩) (fun x=>s.size-x.1) ⟨0,by simp⟩ [] (by simp) fun x ih=>?_;obtain ⟨i,hi,hn⟩:=x;simp only at hi hn ih;have hnm:=isName_low s;by_cases hlt:i<s.size
 ·have hll:i<s.data.toList.length:=by simpa using hlt
  rw [List.drop_eq_getElem_cons hll,lowAll_cons,←byteAt_list s i hlt] at hn;by_cases h1:byteAt s i<97
  ·refine hC.vc [] 60 ?_;have h1':¬97≤byteAt s i:=(by omega);simp [hlt,h1,hnm,hn,h1']
  ·by_cases h2:122<byteAt s i
   ·refine hC.vc [] 60 ?_;have h2':¬byteAt s i≤122:=(by omega);simp [hlt,h1,h2,hnm,hn,h2']
   ·refine hC.vc [] 60 ?_;simp [hlt,h1,h2];have hw:=wr64 ((i:Int)+1) (by omega);have e1:97≤byteAt s i:=(by omega);have e2:byteAt s i≤122:=(by omega);simp only [e1,e2,decide_true,Bool.true_and] at hn;exact go_to [] (ih ⟨i+1,hlt,hn⟩ (by simp;omega)) (by simp [hw])
 ·rw [List.drop_eq_nil_of_le (by simpa using hlt)] at hn;have hn:lowAll s.data.toList=true:=hn;rw [hn] at hnm;by_cases a:1≤(s.size:Int)
  ·by_cases b:(s.size:Int)≤8
   ·refine hC.vc [] 60 ?_;simp [hlt,a,b,hnm]
   ·refine hC.vc [] 60 ?_;simp [hlt,a,b,hnm]
  ·refine hC.vc [] 60 ?_;simp [hlt,a,hnm]
end Go.Proofs.D
