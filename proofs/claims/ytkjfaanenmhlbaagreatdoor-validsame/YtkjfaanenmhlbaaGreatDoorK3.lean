/-
  ARE TWO ONE?
-/
import Derived.Test.YtkjfaanenmhlbaaGreatDoorZ3
import Derived.Test.YtkjfaanenmhlbaaGreatDoorS0
set_option linter.unusedVariables false
set_option linter.unusedSimpArgs false
namespace Go.Proofs.D
open Go Go.Abs Go.RowKit
theorem dec_drop {α:Type}[DecidableEq α]{l m:List α}{i:Nat}(h1:i<l.length)(h2:i<m.length):decide (l.drop i=m.drop i)=(decide (l[i]=m[i])&&decide (l.drop (i+1)=m.drop (i+1))):=by
 rw [List.drop_eq_getElem_cons h1,List.drop_eq_getElem_cons h2,Bool.eq_iff_iff];simp only [decide_eq_true_eq,Bool.and_eq_true,List.cons.injEq]
theorem dec_len {α:Type}[DecidableEq α]{l m:List α}(h:¬(l.length:Int)=m.length):decide (l=m)=false:=by
 rw [decide_eq_false_iff_not];intro e;subst e;exact h rfl
theorem dec_end {α:Type}[DecidableEq α]{l m:List α}{i:Nat}(h1:l.length≤i)(h2:m.length≤i):decide (l.drop i=m.drop i)=true:=by
 rw [List.drop_eq_nil_of_le h1,List.drop_eq_nil_of_le h2];simp
theorem f70 (Gl:Granted)(l m:List ByteArray):Fun Tryz.prog Gl 65 [.pv (strs l),.pv (strs m)] [] (vB (decide (l=m))) []:=by
 refine fun_of (T:=T3) (n:=26) (rs:=[.tmp 4]) Tryz.func65 (by kernel_rfl) rfl rfl rfl tok3 mixed (by simp) fun C hC=>?_;by_cases h3:(l.length:Int)=m.length
 ·have h3':l.length=m.length:=by omega
  refine hC.vc [] 60 ?_;simp [h3];refine go_len 0 1 (l.map fun s=>[.val (.string s)]) (by simp) fun hk=>?_;rw [List.length_map] at hk;refine go_loop (ι:={i:Nat // i≤l.length∧decide (l=m)=decide (l.drop i=m.drop i)}) (fun x=>⟨[(0,.pv (strs l)),(1,.pv (strs m)),(12,vI m.length),(13,vI x.1)],[]⟩)
   (fun x=>l.length-x.1) ⟨0,by simp⟩ [] (by simp) fun x ih=>?_
  obtain ⟨i,hi,hn⟩:=x;simp only at hi hn ih;refine hC.vc [] 60 ?_;by_cases hlt:i<m.length
  ·have hlt':i<l.length:=(by omega);rw [dec_drop hlt' hlt] at hn;have hw:=wr64 ((i:Int)+1) (by omega);by_cases he:l[i]=m[i]
   ·simp [hlt,hlt',he];refine go_to [] (ih ⟨i+1,hlt',by rw [hn,he];simp⟩ (by simp;omega)) (by simp [hw])
   ·simp [hlt,hlt',he,hn]
  ·rw [dec_end (by omega) (by omega)] at hn;simp [hlt,hn]
 ·refine hC.vc [] 60 ?_;simp [h3,dec_len h3]
theorem Ent.pv_eq (e:Ent):e.pv = [.val (.bool e.has),.val (.string e.value),nodes e.rest]:=rfl
end Go.Proofs.D
