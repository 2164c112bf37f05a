/-
  SCHEMAS: do names rise, where a value stands, is an attribute right, where a kind stands.
-/
import Derived.Test.YtkjfaanenmhlbaaGreatDoorZ4
import Derived.Test.YtkjfaanenmhlbaaGreatDoorS0
import Derived.Test.YtkjfaanenmhlbaaGreatDoorS1
import Derived.Test.YtkjfaanenmhlbaaGreatDoorK12
set_option linter.unusedVariables false
set_option linter.unusedSimpArgs false
namespace Go.Proofs.D
open Go Go.Abs Go.RowKit
set_option maxRecDepth 20000 in
theorem g58 (Gl:Granted)(l:List ByteArray)(hs:∀s∈l,s.size≤M47):Fun Tryz.prog Gl 55 [.pv (strs l)] [] (vB (rise l)) []:=by
 refine fun_of (T:=T4) (n:=29) (rs:=[.tmp 2]) Tryz.func55 (by kernel_rfl) rfl rfl rfl tok4 mixed (by simp) fun C hC=>?_;refine hC.vc [] 60 ?_;simp;refine go_len 0 1 (l.map fun s=>[.val (.string s)]) (by simp) fun hk=>?_;rw [List.length_map] at hk;refine go_loop (ι:={i:Nat // i≤l.length∧rise l=riseFrom (prevAt l i) (l.drop i)}) (fun x=>⟨[(0,.pv (strs l)),(5,.pv (strs l)),(6,vI l.length),(7,vI x.1)],[]⟩)
  (fun x=>l.length-x.1) ⟨0,by simp [rise,prevAt]⟩ [] (by simp) fun x ih=>?_
 obtain ⟨i,hi,hn⟩:=x;simp only at hi hn ih;refine hC.vc [] 60 ?_;by_cases hlt:i<l.length
 ·rw [List.drop_eq_getElem_cons hlt] at hn;simp only [riseFrom] at hn;have hw:=wr64 ((i:Int)+1) (by omega);simp [hlt];refine hC.call [] (f58 Gl l[i] (by have:=hs l[i] (by simp);simp only [M47] at this;omega)) (by simp) ?_;refine hC.vc [] 60 ?_;cases hnm:isName l[i] with
  |false=>
   simp [hn,hnm]
  |true=>
   rw [hnm,Bool.true_and] at hn;by_cases h0:0<(i:Int)
   ·have hw2:=wr64 ((i:Int)-1) (by omega);have hi1:i-1<l.length:=(by omega);have h0n:0<i:=(by omega);have e1:((i:Int)-1)=((i-1:Nat):Int):=(by omega);have hp:prevAt l i=some l[i-1]:=by
     unfold prevAt;rw [if_neg (by omega),List.getElem?_eq_getElem hi1]
    rw [hp] at hn;simp only at hn;rw [e1] at hw2;cases hu:notUp l[i] l[i-1] with
    |true=>
     rw [hu] at hn;have hu':(Op.bytesLess l[i].toList l[i-1].toList || decide (l[i]=l[i-1]))=true:=hu;simp [h0n,hw2,e1,hi1,hu',hn]
    |false=>
     rw [hu] at hn;have hu':(Op.bytesLess l[i].toList l[i-1].toList || decide (l[i]=l[i-1]))=false:=hu;simp [h0n,hw2,e1,hi1,hu'];exact go_to [] (ih ⟨i+1,hlt,by rw [prevAt_succ hlt,hn];simp⟩ (by simp;omega)) (by simp [hw])
   ·have hi0:i=0:=(by omega);subst hi0;simp only [prevAt,if_true,Bool.true_and] at hn;simp;exact go_to [] (ih ⟨1,hlt,by rw [hn];simp [prevAt,List.getElem?_eq_getElem hlt]⟩ (by simp;omega)) (by simp [wr64 1 (by omega)])
 ·rw [List.drop_eq_nil_of_le (by omega)] at hn;simp [hlt,hn,riseFrom]
theorem g107 (Gl:Granted)(l:List ByteArray)(v:ByteArray):Fun Tryz.prog Gl 119 [.pv (strs l),vS v] [] (vI (firstAt (fun x=>decide (v=x)) l 0)) []:=by
 refine fun_of (T:=T4) (n:=19) (rs:=[.tmp 4]) Tryz.func119 (by kernel_rfl) rfl rfl rfl tok4 mixed (by simp) fun C hC=>?_;refine hC.vc [] 60 ?_;simp;refine go_len 6 1 (l.map fun s=>[.val (.string s)]) (by simp) fun hk=>?_;rw [List.length_map] at hk;refine go_loop (ι:={i:Nat // i≤l.length∧firstAt (fun x=>decide (v=x)) l 0=firstAt (fun x=>decide (v=x)) (l.drop i) i}) (fun x=>⟨[(0,.pv (strs l)),(1,vS v),(7,vI l.length),(8,vI x.1)],[]⟩) (fun x=>l.length-x.1) ⟨0,by simp⟩ [] (by simp) fun x ih=>?_;obtain ⟨i,hi,hn⟩:=x;simp only at hi hn ih;refine hC.vc [] 60 ?_;simp;by_cases hlt:i<l.length
 ·rw [List.drop_eq_getElem_cons hlt] at hn;simp only [firstAt] at hn;by_cases hv:v=l[i]
  ·simp [hlt,hv];rw [if_pos (by simp [hv])] at hn;simp [hv] at hn;simp [hn]
  ·simp [hlt,hv];rw [if_neg (by simp [hv])] at hn;have hw:=wr64 ((i:Int)+1) (by omega);exact go_to [] (ih ⟨i+1,hlt,hn⟩ (by simp;omega)) (by simp [hw])
 ·simp [hlt];rw [hn,List.drop_eq_nil_of_le (by omega)];simp [firstAt]
theorem g62 (Gl:Granted)(l:List ByteArray)(v:ByteArray):Fun Tryz.prog Gl 61 [.pv (strs l),vS v] [] (vB (l.any fun x=>decide (v=x))) []:=by
 refine fun_of (T:=T4) (n:=9) (rs:=[.tmp 4]) Tryz.func61 (by kernel_rfl) rfl rfl rfl tok4 mixed (by simp) fun C hC=>?_;refine hC.vc [] 60 ?_;simp;refine hC.call [] (g107 Gl l v) (by simp) ?_;refine hC.vc [] 60 ?_;simp [firstAt_any]
theorem g98 (Gl:Granted)(d:Dc)(hs:∀s∈d.vals,s.size≤M47):Fun Tryz.prog Gl 109 [d.av] [] (vB d.ok) []:=by
 refine fun_of (T:=T4) (n:=29) (rs:=[.tmp 2]) Tryz.func109 (by kernel_rfl) rfl rfl rfl tok4 mixed (by simp) fun C hC=>?_;refine hC.vc [] 60 ?_;simp;refine go_len 6 1 (d.vals.map fun s=>[.val (.string s)]) (by simp) fun hk=>?_;rw [List.length_map] at hk;refine go_loop (ι:={i:Nat // i≤d.vals.length∧valsOk d.vals=valsFrom d.vals i (d.vals.drop i)}) (fun x=>⟨[(1,.ptr (.loc 1) 0),(6,.pv (strs d.vals)),(7,vI d.vals.length),(8,vI x.1)],[(.loc 1,some (.box 70 [vS d.name,.pv (strs d.vals)]))]⟩) (fun x=>d.vals.length-x.1) ⟨0,by simp [valsOk]⟩ [] (by simp) fun x ih=>?_;obtain ⟨i,hi,hn⟩:=x;simp only at hi hn ih;refine hC.vc [] 60 ?_;simp;by_cases hlt:i<d.vals.length
 ·rw [List.drop_eq_getElem_cons hlt] at hn;simp only [valsFrom] at hn;simp [hlt];refine hC.call [] (f58 Gl d.vals[i] (by have:=hs d.vals[i] (by simp);simp only [M47] at this;omega)) (by simp) ?_;cases hnm:isName d.vals[i] with
  |false=>
   refine hC.vc [] 60 ?_;simp [Dc.ok,hn,hnm]
  |true=>
   rw [hnm,Bool.true_and] at hn;refine hC.vc [] 60 ?_;simp [hi,←List.map_take];refine hC.call [] (g62 Gl (d.vals.take i) d.vals[i]) (by simp) ?_;refine hC.vc [] 60 ?_;have hw:=wr64 ((i:Int)+1) (by omega);cases hv:(d.vals.take i).any fun x=>decide (d.vals[i]=x) with
   |true=>
    simp [Dc.ok,hn,hv]
   |false=>
    rw [hv] at hn;simp;exact go_to [] (ih ⟨i+1,hlt,by simpa using hn⟩ (by simp;omega)) (by simp [hw])
 ·rw [List.drop_eq_nil_of_le (by omega)] at hn;simp only [valsFrom] at hn;simp [hlt,Dc.ok,hn]
theorem g97 (Gl:Granted)(k:Kd)(name:ByteArray):Fun Tryz.prog Gl 108 [k.av,.ptr (.arg 0) 0] [some (.box 9 [vS name])] (vB (isKind name k)) [some (.box 9 [vS name])]:=by
 refine fun_of (T:=T4) (n:=8) (rs:=[.tmp 3]) Tryz.func108 (by kernel_rfl) rfl rfl rfl tok4 mixed (by simp) fun C hC=>?_;refine hC.vc [] 60 ?_;simp [Kd.av,Kd.cells,E.cells,isKind]
theorem Kd.pv_eq (k:Kd):k.pv = .val (.string k.name)::(k.content.pv++[dcs k.attrs]):=rfl
theorem g96 (Gl:Granted)(l:List Kd)(name:ByteArray):Fun Tryz.prog Gl 107 [.pv (kds l),.fn (.func 108) [] [.ptr (.arg 0) 0]] [some (.box 9 [vS name])] (vI (firstAt (isKind name) l 0)) [some (.box 9 [vS name])]:=by
 refine fun_of (T:=T4) (n:=19) (rs:=[.tmp 4]) Tryz.func107 (by kernel_rfl) rfl rfl rfl tok4 mixed (by simp) fun C hC=>?_;refine hC.vc [] 60 ?_;simp;refine go_len 6 5 (l.map Kd.pv) (by simp) fun hk=>?_;rw [List.length_map] at hk;refine go_loop (ι:={i:Nat // i≤l.length∧firstAt (isKind name) l 0=firstAt (isKind name) (l.drop i) i}) (fun x=>⟨[(0,.pv (kds l)),(1,.fn (.func 108) [] [.ptr (.arg 0) 0]),(7,vI l.length),(8,vI x.1)],[(.arg 0,some (.box 9 [vS name]))]⟩) (fun x=>l.length-x.1) ⟨0,by simp⟩ [] (by simp) fun x ih=>?_;obtain ⟨i,hi,hn⟩:=x;simp only at hi hn ih;refine hC.vc [] 60 ?_;simp;by_cases hlt:i<l.length
 ·rw [List.drop_eq_getElem_cons hlt] at hn;simp only [firstAt] at hn;simp [hlt,Kd.pv_eq,E.pv_eq];refine hC.call [.arg 0] (g97 Gl l[i] name) (by simp [Kd.av,Kd.cells,E.cells]) ?_;refine hC.vc [] 60 ?_;simp;cases hq:isKind name l[i] with
  |true=>
   simp [hn,hq]
  |false=>
   simp;have hw:=wr64 ((i:Int)+1) (by omega);exact go_to [] (ih ⟨i+1,hlt,by simpa [hq] using hn⟩ (by simp;omega)) (by simp [hw])
 ·simp [hlt];rw [hn,List.drop_eq_nil_of_le (by omega)];simp [firstAt]
theorem g56 (Gl:Granted)(s:Sc)(name:ByteArray):Fun Tryz.prog Gl 53 [s.av,vS name] [] (vI (s.place name)) []:=by
 refine fun_of (T:=T4) (n:=9) (rs:=[.tmp 4]) Tryz.func53 (by kernel_rfl) rfl rfl rfl tok4 mixed (by simp) fun C hC=>?_;refine hC.vc [] 60 ?_;simp [Sc.av,Sc.cells];refine hC.call [.loc 3] (g96 Gl s.kinds name) (by simp) ?_;refine hC.vc [] 60 ?_;simp [Sc.place]
def Dc.fit (d:Dc):Prop:=d.name.size≤M47∧∀v∈d.vals,v.size≤M47
def Kd.fit (k:Kd):Prop:=k.name.size≤M47∧k.content.small∧k.content.cnt≤900000∧k.attrs.length≤1000000∧∀d∈k.attrs,d.fit
def Sc.fit (s:Sc):Prop:=(∀k∈s.kinds,k.fit)∧∀m∈s.marks,m.size≤M47
def k0:Kd:=⟨⟨#[]⟩,.mk 0 ⟨#[]⟩ [],[]⟩
def Sc.find (s:Sc)(name:ByteArray):Kd × Bool:=if s.place name<0 then (k0,false) else ((s.kinds[(s.place name).toNat]?).getD k0,true)
theorem g21 (Gl:Granted)(s:Sc)(name:ByteArray):Fun Tryz.prog Gl 59 [s.av,vS name] [] (.tup [(s.find name).1.av,vB (s.find name).2]) []:=by
 refine fun_of (T:=T4) (n:=18) (rs:=[.cell 4 66,.tmp 5]) Tryz.func59 (by kernel_rfl) rfl rfl rfl tok4 mixed (by simp) fun C hC=>?_;refine hC.vc [] 60 ?_;simp [Sc.av,Sc.cells];refine hC.call [] (g56 Gl s name) (by simp [Sc.av,Sc.cells]) ?_;have hf:s.find name=if s.place name<0 then (k0,false) else ((s.kinds[(s.place name).toNat]?).getD k0,true):=rfl
 by_cases h:s.place name<0
 ·rw [if_pos h] at hf;rw [hf] at hC;refine hC.vc [] 60 ?_;simp [h,k0,Kd.av,Kd.cells,E.cells,E.op,E.name,E.kids]
 ·rw [if_neg h] at hf;rcases firstAt_lt (isKind name) s.kinds 0 with h'|⟨j,h1,h2,h3⟩
  ·exact absurd h' h
  ·have hp:s.place name=((j:Nat):Int):=(by unfold Sc.place;rw [h1];simp);have hj:s.kinds[((j:Nat):Int).toNat]?=some s.kinds[j]:=(by simp [h2]);rw [hp,hj] at hf;simp only [Option.getD_some] at hf;rw [hf] at hC;rw [hp];have hj0:¬((j:Int)<0):=(by omega);refine hC.vc [] 60 ?_;simp [h2,hj0,Kd.av,Kd.cells,E.cells,Kd.pv_eq,E.pv_eq]
theorem g99 (Gl:Granted)(s:Sc)(name:ByteArray):Fun Tryz.prog Gl 110 [vS name,.ptr (.arg 0) 0] [some (.box 25 s.cells)] (vB (s.unknown name)) [some (.box 25 s.cells)]:=by
 refine fun_of (T:=T4) (n:=18) (rs:=[.tmp 3]) Tryz.func110 (by kernel_rfl) rfl rfl rfl tok4 mixed (by simp) fun C hC=>?_;refine hC.vc [] 60 ?_;simp [Sc.cells];refine hC.call [] (g21 Gl s name) (by simp [Sc.av,Sc.cells,Kd.av,Kd.cells,E.cells]) ?_;have hf:s.find name=if s.place name<0 then (k0,false) else ((s.kinds[(s.place name).toNat]?).getD k0,true):=rfl
 by_cases h:s.place name<0
 ·rw [if_pos h] at hf;rw [hf];by_cases ht:name=⟨#[116,101,120,116]⟩
  ·refine hC.vc [] 60 ?_;simp [ht,Kd.av,Kd.cells,E.cells,Sc.unknown,Sc.cells,h,textK]
  ·refine hC.vc [] 60 ?_;simp [ht,Kd.av,Kd.cells,E.cells,Sc.unknown,Sc.cells,h,textK]
 ·rw [if_neg h] at hf;rw [hf];refine hC.vc [] 60 ?_;simp [Kd.av,Kd.cells,E.cells,Sc.unknown,Sc.cells,h]
theorem g134 (Gl:Granted)(l:List ByteArray)(s:Sc):Fun Tryz.prog Gl 170 [.pv (strs l),.fn (.func 110) [] [.ptr (.arg 0) 0]] [some (.box 25 s.cells)] (vI (firstAt s.unknown l 0)) [some (.box 25 s.cells)]:=by
 refine fun_of (T:=T4) (n:=19) (rs:=[.tmp 4]) Tryz.func170 (by kernel_rfl) rfl rfl rfl tok4 mixed (by simp) fun C hC=>?_;refine hC.vc [] 60 ?_;simp;refine go_len 6 1 (l.map fun s=>[.val (.string s)]) (by simp) fun hk=>?_;rw [List.length_map] at hk;refine go_loop (ι:={i:Nat // i≤l.length∧firstAt s.unknown l 0=firstAt s.unknown (l.drop i) i}) (fun x=>⟨[(0,.pv (strs l)),(1,.fn (.func 110) [] [.ptr (.arg 0) 0]),(7,vI l.length),(8,vI x.1)],[(.arg 0,some (.box 25 s.cells))]⟩) (fun x=>l.length-x.1) ⟨0,by simp⟩ [] (by simp [Sc.cells]) fun x ih=>?_;obtain ⟨i,hi,hn⟩:=x;simp only at hi hn ih;refine hC.vc [] 60 ?_;simp;by_cases hlt:i<l.length
 ·rw [List.drop_eq_getElem_cons hlt] at hn;simp only [firstAt] at hn;simp [hlt];refine hC.call [.arg 0] (g99 Gl s l[i]) (by simp [Sc.cells]) ?_;refine hC.vc [] 60 ?_;simp;cases hq:s.unknown l[i] with
  |true=>
   simp [hn,hq,Sc.cells]
  |false=>
   simp;have hw:=wr64 ((i:Int)+1) (by omega);exact go_to [] (ih ⟨i+1,hlt,by simpa [hq] using hn⟩ (by simp;omega)) (by simp [hw,Sc.cells])
 ·simp [hlt,Sc.cells];rw [hn,List.drop_eq_nil_of_le (by omega)];simp [firstAt]
theorem g101 (Gl:Granted)(l:List ByteArray)(s:Sc):Fun Tryz.prog Gl 112 [.pv (strs l),.fn (.func 110) [] [.ptr (.arg 0) 0]] [some (.box 25 s.cells)] (vB (l.any s.unknown)) [some (.box 25 s.cells)]:=by
 refine fun_of (T:=T4) (n:=9) (rs:=[.tmp 4]) Tryz.func112 (by kernel_rfl) rfl rfl rfl tok4 mixed (by simp) fun C hC=>?_;refine hC.vc [] 60 ?_;simp;refine hC.call [.arg 0] (g134 Gl l s) (by simp [Sc.cells]) ?_;refine hC.vc [] 60 ?_;simp [firstAt_any,Sc.cells]
set_option maxRecDepth 20000 in
set_option maxHeartbeats 2000000 in
theorem g57 (Gl:Granted)(k:Kd)(s:Sc)(hk:k.fit):Fun Tryz.prog Gl 54 [k.av,s.av] [] (vB (k.ok s)) []:=by
 obtain ⟨f1,f2,f3,f4,f5⟩:=hk;refine fun_of (T:=T4) (n:=46) (rs:=[.tmp 4]) Tryz.func54 (by kernel_rfl) rfl rfl rfl tok4 mixed (by simp) fun C hC=>?_;refine hC.vc [] 60 ?_;simp [Kd.av,Kd.cells,E.cells,Sc.av,Sc.cells];refine go_loop (ι:={i:Nat // i≤k.attrs.length∧k.attrs.all Dc.ok=(k.attrs.drop i).all Dc.ok}) (fun x=>⟨[(2,.ptr (.loc 2) 0),(3,.ptr (.loc 3) 0),(10,.pv (dcs k.attrs)),(11,vI k.attrs.length),(12,vI x.1),(5,.own (.can 0))],
  [(.loc 2,some (.box 66 k.cells)),(.loc 3,some (.box 25 s.cells)),(.can 0,some (.row 9 1 ((k.attrs.map fun d=>[PV.val (.string d.name)]).take x.1)))]⟩)
  (fun x=>k.attrs.length-x.1) ⟨0,by simp⟩ [(.can 0,.nil)] (by simp [Kd.cells,E.cells,Sc.cells]) fun x ih=>?_
 obtain ⟨i,hi,hn⟩:=x;simp only at hi hn ih;refine hC.vc [] 60 ?_;by_cases hlt:i<k.attrs.length
 ·have hw1:=wr64 ((i:Int)+1) (by omega);rw [List.drop_eq_getElem_cons hlt,List.all_cons] at hn;simp [hlt,Kd.cells,E.cells,Sc.cells];refine hC.call [] (g98 Gl k.attrs[i] (f5 _ (by simp)).2) (by simp) ?_;cases hv:k.attrs[i].ok with
  |false=>
   rw [hv,Bool.false_and] at hn;have:k.ok s=false:=(by unfold Kd.ok;rw [hn];rfl);refine hC.vc [] 60 ?_;simp [this]
  |true=>
   rw [hv,Bool.true_and] at hn;refine hC.vc [] 60 ?_;simp;refine ⟨by omega,?_⟩;have htk:(k.attrs.map fun d=>[PV.val (.string d.name)]).take (i+1)=(k.attrs.map fun d=>[PV.val (.string d.name)]).take i++[[.val (.string k.attrs[i].name)]]:=by
    rw [List.take_add_one,List.getElem?_map,List.getElem?_eq_getElem hlt];rfl
   exact go_to [(.can 0,.nm (.loc 23))] (ih ⟨i+1,hlt,hn⟩ (by simp;omega)) (by simp [hw1,Kd.cells,E.cells,Sc.cells,htk])
 ·rw [List.drop_eq_nil_of_le (by omega),List.all_nil] at hn;have hnm:(k.attrs.map fun d=>[PV.val (.string d.name)]).take i=(k.attrs.map (·.name)).map fun s=>[PV.val (.string s)]:=by
   rw [List.take_of_length_le (by simp;omega),List.map_map];rfl
  have hok:k.ok s=(isName k.name&&(rise (k.attrs.map (·.name))&&(k.content.right&&!(k.content.names.any s.unknown)))):=by unfold Kd.ok;rw [hn,Bool.true_and]
  rw [hnm];simp [hlt,Kd.cells,E.cells,Sc.cells];refine hC.call [] (f58 Gl k.name (by simp only [M47] at f1;omega)) (by simp) ?_;cases hnk:isName k.name with
  |false=>
   rw [hnk,Bool.false_and] at hok;refine hC.vc [] 60 ?_;simp [hok]
  |true=>
   rw [hnk,Bool.true_and] at hok;refine hC.vc [] 60 ?_;simp;refine hC.call [.can 0] (fun_ownRow (a:=[]) (b:=[]) (e:=9) (by simp) rfl (g58 Gl (k.attrs.map (·.name)) fun s hs=>by
    obtain ⟨p,hp,rfl⟩:=List.mem_map.1 hs;exact (f5 p hp).1)) (by simp) ?_
   cases hr:rise (k.attrs.map (·.name)) with
   |false=>
    rw [hr,Bool.false_and] at hok;refine hC.vc [] 60 ?_;simp [hok]
   |true=>
    rw [hr,Bool.true_and] at hok;refine hC.vc [] 60 ?_;simp;refine hC.call [] (f18 Gl k.content f2) (by simp [E.av,E.cells]) ?_;cases he:k.content.right with
    |false=>
     rw [he,Bool.false_and] at hok;refine hC.vc [] 60 ?_;simp [hok]
    |true=>
     rw [he,Bool.true_and] at hok;refine hC.vc [] 60 ?_;simp;refine hC.call [] (f25 Gl k.content f2 f3) (by simp [E.av,E.cells]) ?_;refine hC.vc [] 60 ?_;simp;refine hC.call [.loc 3] (g101 Gl k.content.names s) (by simp [Sc.cells]) ?_;refine hC.vc [] 60 ?_;simp [hok]
set_option maxRecDepth 20000 in
set_option maxHeartbeats 2000000 in
theorem g23 (Gl:Granted)(s:Sc)(hf:s.fit):Fun Tryz.prog Gl 25 [s.av] [] (vB s.ok) []:=by
 refine fun_of (T:=T4) (n:=47) (rs:=[.tmp 2]) Tryz.func25 (by kernel_rfl) rfl rfl rfl tok4 mixed (by simp) fun C hC=>?_;refine hC.vc [] 60 ?_;simp [Sc.av,Sc.cells];refine go_len 6 5 (s.kinds.map Kd.pv) (by simp) fun hlen=>?_;rw [List.length_map] at hlen;refine go_loop (ι:={i:Nat // i≤s.kinds.length∧kindsFrom s 0 s.kinds=kindsFrom s i (s.kinds.drop i)}) (fun x=>⟨[(1,.ptr (.loc 1) 0),(6,.pv (kds s.kinds)),(7,vI s.kinds.length),(8,vI x.1)],
  [(.loc 1,some (.box 25 s.cells))]⟩)
  (fun x=>s.kinds.length-x.1) ⟨0,by simp⟩ [] (by simp [Sc.cells]) fun x ih=>?_
 obtain ⟨i,hi,hn⟩:=x;simp only at hi hn ih;refine hC.vc [] 60 ?_;by_cases hlt:i<s.kinds.length
 ·have hw1:=wr64 ((i:Int)+1) (by omega);rw [List.drop_eq_getElem_cons hlt] at hn;simp only [kindsFrom] at hn;simp [hlt,Sc.cells,Kd.pv_eq,E.pv_eq];refine hC.call [] (g56 Gl s s.kinds[i].name) (by simp [Sc.av,Sc.cells]) ?_;by_cases hp:s.place s.kinds[i].name=(i:Int)
  ·rw [decide_eq_true hp,Bool.true_and] at hn;refine hC.vc [] 60 ?_;simp [hp];refine hC.call [] (g57 Gl s.kinds[i] s (hf.1 _ (by simp))) (by simp [Sc.av,Sc.cells,Kd.av,Kd.cells,E.cells]) ?_;cases hk:s.kinds[i].ok s with
   |false=>
    rw [hk,Bool.false_and] at hn;have:s.ok=false:=(by unfold Sc.ok;rw [hn];rfl);refine hC.vc [] 60 ?_;simp [this]
   |true=>
    rw [hk,Bool.true_and] at hn;refine hC.vc [] 60 ?_;simp;exact go_to [] (ih ⟨i+1,hlt,hn⟩ (by simp;omega)) (by simp [hw1,Sc.cells])
  ·rw [decide_eq_false hp,Bool.false_and,Bool.false_and] at hn;have:s.ok=false:=(by unfold Sc.ok;rw [hn];rfl);refine hC.vc [] 60 ?_;simp [hp,this]
 ·rw [List.drop_eq_nil_of_le (by omega)] at hn;simp only [kindsFrom] at hn;have hok:s.ok=(decide (0<(s.kinds.length:Int))&&(decide ((s.kinds.length:Int)≤12)&&(decide ((s.marks.length:Int)≤12)&&rise s.marks))):=by unfold Sc.ok;rw [hn,Bool.true_and]
  by_cases h0:s.kinds = []
  ·have:s.ok=false:=(by rw [hok,h0];rfl);have hi0:¬((i:Int)<0):=(by omega);simp [hlt,Sc.cells,h0,this,hi0]
  ·have h1n:0<s.kinds.length:=List.length_pos_iff.2 h0;have h1:0<(s.kinds.length:Int):=(by omega);rw [decide_eq_true h1,Bool.true_and] at hok;by_cases h2:(s.kinds.length:Int)≤12
   ·rw [decide_eq_true h2,Bool.true_and] at hok;by_cases h3:(s.marks.length:Int)≤12
    ·rw [decide_eq_true h3,Bool.true_and] at hok;simp [hlt,Sc.cells,h0,h1,h1n,h2,h3];refine hC.call [] (g58 Gl s.marks hf.2) (by simp) ?_;refine hC.vc [] 60 ?_;simp [hok]
    ·rw [decide_eq_false h3,Bool.false_and] at hok;simp [hlt,Sc.cells,h0,h1,h1n,h2,h3,hok]
   ·rw [decide_eq_false h2,Bool.false_and] at hok;simp [hlt,Sc.cells,h0,h1,h1n,h2,hok]
end Go.Proofs.D
