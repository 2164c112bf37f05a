/-
  ROWS OF NUMBERS, of the answer to chapter 7: has, same; one step.
-/
import Derived.Test.YtkjfaanenmhlbaaGreatDoorZ5
import Derived.Test.YtkjfaanenmhlbaaGreatDoorG0
set_option linter.unusedVariables false
set_option linter.unusedSimpArgs false
namespace Go.Proofs.D
open Go Go.Abs
def ixG (a:ByteArray)(l:List ByteArray):Int:=if ixK a l<l.length then (ixK a l:Nat) else -1
theorem ixG_not {a:ByteArray}{l:List ByteArray}(h:a∉l):ixG a l = -1:=by simp [ixG,ixK_not h]
theorem ixG_mem {a:ByteArray}{l:List ByteArray}(h:a∈l):ixG a l=(ixK a l:Nat):=by simp [ixG,ixK_lt h]
theorem ixK_of {a:ByteArray}:∀ {l:List ByteArray} {i:Nat} (h:i<l.length),(∀j (hj:j<l.length),j<i→l[j]≠a)→l[i]=a→ixK a l=i
 |x::l,0,_,_,e=>by simp at e;simp [ixK,e]
 |x::l,i+1,h,h1,e=>by
  have hx:x≠a:=h1 0 (by simp) (by omega);have:=ixK_of (l:=l) (i:=i) (by simpa using h) (fun j hj hji=>by have:=h1 (j+1) (by simp;omega) (by omega);simpa using this) (by simpa using e);simp [ixK,hx,this]
set_option maxRecDepth 20000 in
theorem h46 (Gl:Granted)(l:List ByteArray)(a:ByteArray):Fun Tryz.prog Gl 119 [.pv (namesV l),vS a] [] (vI (ixG a l)) []:=by
 refine fun_of (T:=T5) (n:=19) (rs:=[.tmp 4]) Tryz.func119 (by kernel_rfl) rfl rfl rfl tok5 mixed (by simp) fun C hC=>?_;refine hC.vc [] 60 ?_;simp;refine go_len 0 1 (l.map fun s=>[.val (.string s)]) (by simp) fun hlen=>?_;rw [List.length_map] at hlen;refine go_loop (ι:={i:Nat // i≤l.length∧∀j (hj:j<l.length),j<i→l[j]≠a}) (fun x=>⟨[(0,.pv (namesV l)),(1,vS a),(7,vI l.length),(8,vI x.1)],[]⟩) (fun x=>l.length-x.1) ⟨0,by simp⟩ [] (by simp) fun x ih=>?_;obtain ⟨i,hi,hn⟩:=x;simp only at hi hn ih;refine hC.vc [] 60 ?_;by_cases hlt:i<l.length
 ·have hw:=wr64 ((i:Int)+1) (by omega);by_cases he:a=l[i]
  ·have hix:ixG a l=i:=by
    have:=ixK_of hlt hn he.symm;rw [ixG,this,if_pos hlt]
   simp [hlt,he];rw [←he,hix]
  ·simp [hlt,he];exact go_to [] (ih ⟨i+1,hlt,fun j hj hji=>by
    by_cases e:j=i
    ·subst e;exact fun q=>he q.symm
    ·exact hn j hj (by omega)⟩ (by simp;omega)) (by simp [hw])
 ·have hna:¬a∈l:=fun h=>by
   obtain ⟨j,hj,e⟩:=List.getElem_of_mem h;exact hn j hj (by omega) e
  simp [hlt,ixG_not hna]
set_option maxRecDepth 20000 in
theorem h18 (Gl:Granted)(d:Au)(hr:∀r∈d.next,r.length=d.names.length)(s:Int)(a:ByteArray):Fun Tryz.prog Gl 186 [d.av,vI s,vS a] [] (vI (d.stp s a)) []:=by
 have h46':=h46 Gl d.names a;refine fun_of (T:=T5) (n:=43) (rs:=[.tmp 6]) Tryz.func186 (by kernel_rfl) rfl rfl rfl tok5 mixed (by simp) fun C hC=>?_;refine hC.vc [] 60 ?_;simp [Au.av,Au.cells];refine hC.call [] h46' (by simp) ?_;by_cases ha:a∈d.names
 ·have hix:ixG a d.names=(ixK a d.names:Nat):=ixG_mem ha;have hil:=ixK_lt ha;rw [hix];generalize hj:ixK a d.names=j at hil;have hj0:¬(j:Int)<0:=by omega
  by_cases h0:s<0
  ·have:d.stp s a = -1:=(by simp [Au.stp,h0]);refine hC.vc [] 60 ?_;simp [hj0,h0,this]
  ·obtain ⟨n,hn⟩:∃n:Nat,s=n:=⟨s.toNat,by omega⟩;subst hn;by_cases hnl:n<d.next.length
   ·have hq:=hr _ (List.getElem_mem hnl);have hl1:¬(d.next.length:Int)≤n:=(by omega);have hl3:((d.next[n].length:Nat):Int)=d.names.length:=(by omega);have hl2:¬((d.names.length:Nat):Int)≤j:=(by omega);have hst:d.stp n a=d.next[n][j]'(by omega):=by
     have:¬(n:Int)<0:=(by omega);have hjr:j<d.next[n].length:=(by omega);simp [Au.stp,this,hj,hnl,List.getD,List.getElem?_eq_getElem hjr]
    have hjr:j<d.next[n].length:=(by omega);refine hC.vc [] 60 ?_;simp [hj0,h0,hnl,hl1,hl2,hl3,hst,hil,hq,hjr]
   ·have hl1:(d.next.length:Int)≤n:=(by omega);have hst:d.stp n a = -1:=by
     have:¬(n:Int)<0:=(by omega);simp [Au.stp,this,List.getElem?_eq_none (Nat.not_lt.1 hnl)]
    have hnl':d.next.length≤n:=(by omega);refine hC.vc [] 60 ?_;simp [hj0,h0,hnl,hnl',hl1,hst]
 ·have hst:=stp_not d s ha hr;refine hC.vc [] 60 ?_;simp [ixG_not ha,hst]
theorem acc_neg (d:Au){s:Int}(h:¬0≤s):d.acc s=false:=by simp [Au.acc,h]
theorem acc_in (d:Au){n:Nat}(h:n<d.final.length):d.acc n=d.final[n]:=by
 have:(0:Int)≤n:=by omega
 simp [Au.acc,this,List.getD,List.getElem?_eq_getElem h]
theorem acc_out (d:Au){n:Nat}(h:¬n<d.final.length):d.acc n=false:=by
 simp [Au.acc,List.getD,List.getElem?_eq_none (Nat.not_lt.1 h)]
set_option maxRecDepth 20000 in
theorem h100 (Gl:Granted)(d:Au)(s:Int):Fun Tryz.prog Gl 185 [d.av,vI s] [] (vB (d.acc s)) []:=by
 refine fun_of (T:=T5) (n:=21) (rs:=[.tmp 4]) Tryz.func185 (by kernel_rfl) rfl rfl rfl tok5 mixed (by simp) fun C hC=>?_;by_cases h0:0≤s
 ·obtain ⟨n,hn⟩:∃n:Nat,s=n:=⟨s.toNat,by omega⟩;subst hn;by_cases h:n<d.final.length
  ·have hI:(n:Int)<d.final.length:=(by omega);refine hC.vc [] 60 ?_;simp [Au.av,Au.cells,h,hI,acc_in d h]
  ·have hI:¬(n:Int)<d.final.length:=(by omega);refine hC.vc [] 60 ?_;simp [Au.av,Au.cells,h,hI,acc_out d h]
 ·refine hC.vc [] 60 ?_;simp [Au.av,Au.cells,h0,acc_neg d h0]
set_option maxRecDepth 20000 in
theorem h19 (Gl:Granted)(d:Au)(hr:∀r∈d.next,r.length=d.names.length)(w:List ByteArray):Fun Tryz.prog Gl 167 [d.av,.pv (namesV w)] [] (vB (d.acc (d.run 0 w))) []:=by
 refine fun_of (T:=T5) (n:=35) (rs:=[.tmp 4]) Tryz.func167 (by kernel_rfl) rfl rfl rfl tok5 mixed (by simp) fun C hC=>?_;refine hC.vc [] 60 ?_;simp [Au.av,Au.cells];refine go_len 1 1 (w.map fun s=>[.val (.string s)]) (by simp) fun hlen=>?_;rw [List.length_map] at hlen;refine go_loop (ι:={x:Nat × Int // x.1≤w.length∧d.run 0 w=d.run x.2 (w.drop x.1)}) (fun x=>⟨[(2,.ptr (.loc 2) 0),(5,vI x.1.2),(8,.pv (namesV w)),(9,vI w.length),(10,vI x.1.1)],[(.loc 2,some (.box 137 d.cells))]⟩) (fun x=>w.length-x.1.1) ⟨(0,0),by simp⟩ [] (by simp [Au.cells]) fun x ih=>?_;obtain ⟨⟨i,s⟩,hi,hn⟩:=x;simp only at hi hn ih;by_cases hlt:i<w.length
 ·have hw:=wr64 ((i:Int)+1) (by omega);rw [List.drop_eq_getElem_cons hlt,run_cons] at hn;refine hC.vc [] 60 ?_;simp [hlt,Au.cells];refine hC.call [] (h18 Gl d hr s w[i]) (by simp [Au.av,Au.cells]) ?_;refine hC.vc [] 60 ?_;simp;exact go_to [] (ih ⟨(i+1,d.stp s w[i]),hlt,hn⟩ (by simp;omega)) (by simp [hw,Au.cells])
 ·rw [List.drop_eq_nil_of_le (by omega),run_nil] at hn;by_cases h0:0≤s
  ·obtain ⟨n,hs⟩:∃n:Nat,s=n:=⟨s.toNat,by omega⟩;subst hs;by_cases h:n<d.final.length
   ·have hI:(n:Int)<d.final.length:=(by omega);refine hC.vc [] 60 ?_;simp [hlt,hn,Au.cells,h,hI,acc_in d h]
   ·have hI:¬(n:Int)<d.final.length:=(by omega);refine hC.vc [] 60 ?_;simp [hlt,hn,Au.cells,h,hI,acc_out d h]
  ·refine hC.vc [] 60 ?_;simp [hlt,hn,Au.cells,h0,acc_neg d h0]
set_option maxRecDepth 20000 in
theorem h63 (Gl:Granted)(l k:List ByteArray):Fun Tryz.prog Gl 65 [.pv (namesV l),.pv (namesV k)] [] (vB (decide (l=k))) []:=by
 refine fun_of (T:=T5) (n:=26) (rs:=[.tmp 4]) Tryz.func65 (by kernel_rfl) rfl rfl rfl tok5 mixed (by simp) fun C hC=>?_;refine hC.vc [] 60 ?_;by_cases hl:(l.length:Int)=k.length
 ·have hl':l.length=k.length:=by omega
  simp [hl];refine go_len 0 1 (l.map fun z=>[.val (.string z)]) (by simp) fun hlen=>?_;rw [List.length_map] at hlen;refine go_loop (ι:={i:Nat // i≤l.length∧l.take i=k.take i}) (fun x=>⟨[(0,.pv (namesV l)),(1,.pv (namesV k)),(12,vI l.length),(13,vI x.1)],[]⟩) (fun x=>l.length-x.1) ⟨0,by simp⟩ [] (by simp [hl]) fun x ih=>?_;obtain ⟨i,hi,hn⟩:=x;simp only at hi hn ih;refine hC.vc [] 60 ?_;by_cases hlt:i<l.length
  ·have hlt':i<k.length:=(by omega);have hw:=wr64 ((i:Int)+1) (by omega);simp [hlt,hlt',hl'];by_cases he:l[i]=k[i]
   ·simp [hlt,hlt',he];exact go_to [] (ih ⟨i+1,hlt,by rw [List.take_add_one,List.take_add_one,hn,List.getElem?_eq_getElem hlt,List.getElem?_eq_getElem hlt',he]⟩ (by simp;omega)) (by simp [hw,hl])
   ·have:¬l=k:=fun e=>he (by subst e;rfl);simp [hlt,hlt',he,this]
  ·rw [List.take_of_length_le (by omega),List.take_of_length_le (by omega)] at hn;have h2:¬i<k.length:=(by omega);simp [hlt,h2,hn]
 ·have:¬l=k:=fun e=>hl (by rw [e]);simp [hl,this]
end Go.Proofs.D
