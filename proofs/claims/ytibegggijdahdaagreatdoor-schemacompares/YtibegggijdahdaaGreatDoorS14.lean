/-
  THE ANSWER TO CHAPTER 6: the names of an expression.
-/
import Derived.Test.YtibegggijdahdaaGreatDoorZ4
import Derived.Test.YtibegggijdahdaaGreatDoorS0
import Derived.Test.YtibegggijdahdaaGreatDoorD16
set_option linter.unusedVariables false
set_option linter.unusedSimpArgs false
namespace Go.Proofs.D
open Go Go.Abs Go.RowKit
instance memDec (s:ByteArray) (l:List ByteArray):Decidable (s∈l):=@List.instDecidableMemOfLawfulBEq _ instBEqOfDecidableEq inferInstance s l
def putL (s:ByteArray):List ByteArray→Bool→List ByteArray
 |[],done=>if done=true then [] else [s]
 |x::l,done=>if done=false∧Op.bytesLess s.toList x.toList=true then s::x::putL s l true else x::putL s l done
def putR (l:List ByteArray)(s:ByteArray):List ByteArray:=if s∈l then l else putL s l false
theorem putL_mem (s x:ByteArray):∀(l:List ByteArray) (b:Bool),x∈putL s l b↔x∈l∨(b=false∧x=s)
 |[],b=>by cases b<;>simp [putL]
 |y::l,b=>by
  simp only [putL];split
  ·rename_i h;have:=putL_mem s x l true;simp only [List.mem_cons,this,h.1];simp;constructor
   ·rintro (h|h|h)
    ·exact .inr h
    ·exact .inl (.inl h)
    ·exact .inl (.inr h)
   ·rintro ((h|h)|h)
    ·exact .inr (.inl h)
    ·exact .inr (.inr h)
    ·exact .inl h
  ·have:=putL_mem s x l b;simp only [List.mem_cons,this,or_assoc]
theorem putL_len (s:ByteArray):∀(l:List ByteArray) (b:Bool),(putL s l b).length≤l.length+1
 |[],b=>by cases b<;>simp [putL]
 |y::l,b=>by
  simp only [putL];split
  ·have:∀l:List ByteArray,(putL s l true).length=l.length:=by
    intro l;induction l with
    |nil=>simp [putL]
    |cons y l ih=>simp [putL,ih]
   simp [this]
  ·have:=putL_len s l b;simp only [List.length_cons];omega
theorem putR_mem (l:List ByteArray)(s x:ByteArray):x∈putR l s↔x∈l∨x=s:=by
 unfold putR;split
 ·rename_i h;constructor
  ·exact .inl
  ·rintro (h1|rfl)
   ·exact h1
   ·exact h
 ·rw [putL_mem];simp
theorem putR_len (l:List ByteArray)(s:ByteArray):(putR l s).length≤l.length+1:=by
 unfold putR;split
 ·omega
 ·exact putL_len s l false
set_option maxRecDepth 20000 in
theorem g138 (Gl:Granted)(l:List ByteArray)(s:ByteArray)(hl:l.length≤2000000):Fun Tryz.prog Gl 94 [.pv (strs l),vS s] [] (.pv (strs (putR l s))) []:=by
 refine fun_of (T:=T4) (n:=49) (rs:=[.tmp 4]) Tryz.func94 (by kernel_rfl) rfl rfl rfl tok4 mixed (by simp) fun C hC=>?_;refine hC.go [] 60 ?_;simp;refine go_loop (ι:={x:Nat × Bool × List ByteArray // x.1≤l.length∧s∉l.take x.1∧putL s l false=x.2.2++putL s (l.drop x.1) x.2.1∧x.2.2.length≤x.1+(if x.2.1=true then 1 else 0)})
  (fun x=>⟨[(0,.pv (strs l)),(1,vS s),(5,.own (.can 0)),(6,vB x.1.2.1),(7,vI x.1.1)],[(.can 0,some (.row 9 1 (x.1.2.2.map fun s=>[.val (.string s)])))]⟩)
  (fun x=>l.length-x.1.1) ⟨(0,false,[]),by simp⟩ [(.can 0,.nil)] (by simp) fun x ih=>?_
 obtain ⟨⟨i,done,out⟩,hi,hns,hn,hol⟩:=x;simp only at hi hns hn hol ih;by_cases hlt:i<l.length
 ·have hw:=wr64 ((i:Int)+1) (by omega);have hlt':(i:Int)<l.length:=by omega
  by_cases he:l[i]=s
  ·have hp:putR l s=l:=by rw [putR,if_pos (by rw [←he];simp)]
   rw [hp] at hC;refine hC.go [] 60 ?_;simp [hlt,he]
  ·have hns2:s∉l.take (i+1):=by
    rw [List.take_add_one,List.getElem?_eq_getElem hlt];intro h;rcases List.mem_append.1 h with h|h
    ·exact hns h
    ·exact he (by simpa using h:s=l[i]).symm
   rw [List.drop_eq_getElem_cons hlt,putL] at hn;cases done with
   |true=>
    rw [if_neg (by simp)] at hn;simp at hol;refine hC.go [] 60 ?_;simp [hlt,he];refine ⟨by omega,?_⟩;exact go_to [(.can 0,.nm (.loc 41))] (ih ⟨(i+1,true,out++[l[i]]),hlt,hns2,by rw [hn];simp,by simp;omega⟩ (by simp;omega)) (by simp [hw])
   |false=>
    simp at hol;cases hb:Op.bytesLess s.toList l[i].toList with
    |true=>
     rw [if_pos ⟨rfl,hb⟩] at hn;refine hC.go [] 100 ?_;simp [hlt,he,hb]
     repeat (refine ⟨by omega,?_⟩)
     exact go_to [(.can 0,.nm (.loc 41))] (ih ⟨(i+1,true,out++[s]++[l[i]]),hlt,hns2,by rw [hn];simp,by simp;omega⟩ (by simp;omega)) (by simp [hw])
    |false=>
     rw [if_neg (by simp [hb])] at hn;refine hC.go [] 60 ?_;simp [hlt,he,hb];refine ⟨by omega,?_⟩;exact go_to [(.can 0,.nm (.loc 41))] (ih ⟨(i+1,false,out++[l[i]]),hlt,hns2,by rw [hn];simp,by simp;omega⟩ (by simp;omega)) (by simp [hw])
 ·have hnl:¬s∈l:=by rw [List.take_of_length_le (by omega)] at hns;exact hns
  have hp:putR l s=putL s l false:=by rw [putR,if_neg hnl]
  rw [hp,hn,List.drop_eq_nil_of_le (by omega)] at hC;cases done with
  |true=>
   refine hC.go [] 60 ?_;simp [hlt,putL]
  |false=>
   refine hC.go [] 60 ?_;simp at hol;simp [hlt,putL];omega
end Go.Proofs.D
