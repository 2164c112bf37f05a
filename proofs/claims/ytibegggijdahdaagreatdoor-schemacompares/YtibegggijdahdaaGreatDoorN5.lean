/-
  SCHEMAS: are two the same?
-/
import Derived.Test.YtibegggijdahdaaGreatDoorZ8
import Derived.Test.YtibegggijdahdaaGreatDoorN0
import Derived.Test.YtibegggijdahdaaGreatDoorS5
import Derived.Test.YtibegggijdahdaaGreatDoorS20
import Derived.Test.YtibegggijdahdaaGreatDoorH30
import Derived.Test.YtibegggijdahdaaGreatDoorG3
import Derived.Test.YtibegggijdahdaaGreatDoorG18
set_option linter.unusedVariables false
set_option linter.unusedSimpArgs false
namespace Go.Proofs.D
open Go Go.Abs Go.RowKit
noncomputable def Sc.sameK (b:Sc)(k:Kd):Bool:=(b.find k.name).2&&decide (k.attrs=(b.find k.name).1.attrs)&&sameB k.content (b.find k.name).1.content
def Sc.top (s:Sc):ByteArray:=((s.kinds[0]?).getD k0).name
noncomputable def Sc.same (a b:Sc):Bool:=a.ok&&(b.ok&&(decide (a.top=b.top)&&(decide ((a.kinds.length:Int)=b.kinds.length)&&(decide (a.marks=b.marks)&&a.kinds.all b.sameK))))
theorem Dc.dec (a b:Dc):decide (a=b)=(decide (a.name=b.name)&&decide (a.vals=b.vals)):=by
 obtain ⟨x,y⟩:=a;obtain ⟨x',y'⟩:=b;simp [Dc.mk.injEq,Bool.decide_and]
theorem h65 (Gl:Granted)(a b:Dc):Fun Tryz.prog Gl 23 [a.av,b.av] [] (vB (decide (a=b))) []:=by
 rw [Dc.dec];have h63:=h63 Gl a.vals b.vals;refine fun_of (T:=T8) (n:=17) (rs:=[.tmp 4]) Tryz.func23 (by kernel_rfl) rfl rfl rfl tok8 mixed (by simp) fun C hC=>?_;by_cases h:a.name=b.name
 ·refine hC.go [] 60 ?_;simp [h];refine hC.call [] h63 (by simp) ?_;refine hC.go [] 60 ?_;simp [h]
 ·refine hC.go [] 60 ?_;simp [h]
theorem h64 (Gl:Granted)(l m:List Dc):Fun Tryz.prog Gl 22 [.pv (dcs l),.pv (dcs m),.fn (.func 23) [] []] [] (vB (decide (l=m))) []:=by
 refine fun_of (T:=T8) (n:=32) (rs:=[.tmp 6]) Tryz.func22 (by kernel_rfl) rfl rfl rfl tok8 mixed (by simp) fun C hC=>?_;by_cases h3:(l.length:Int)=m.length
 ·have h3':l.length=m.length:=by omega
  refine hC.go [] 60 ?_;simp [h3];refine go_len 0 2 (l.map Dc.pv) (by simp) fun hk=>?_;rw [List.length_map] at hk;refine go_loop (ι:={i:Nat // i≤l.length∧decide (l=m)=decide (l.drop i=m.drop i)}) (fun x=>⟨[(15,.pv (dcs l)),(1,.pv (dcs m)),(2,.fn (.func 23) [] []),(16,vI m.length),(17,vI x.1)],[]⟩)
   (fun x=>l.length-x.1) ⟨0,by simp⟩ [] (by simp) fun x ih=>?_
  obtain ⟨i,hi,hn⟩:=x;simp only at hi hn ih;refine hC.go [] 60 ?_;by_cases hlt:i<m.length
  ·have hlt':i<l.length:=(by omega);rw [dec_drop hlt' hlt] at hn;have hw:=wr64 ((i:Int)+1) (by omega);simp [hlt,hlt'];refine hC.call [] (h65 Gl l[i] m[i]) (by simp) ?_;refine hC.go [] 60 ?_;cases he:decide (l[i]=m[i]) with
   |true=>
    rw [he,Bool.true_and] at hn;simp;exact go_to [] (ih ⟨i+1,hlt',hn⟩ (by simp;omega)) (by simp [hw])
   |false=>
    rw [he,Bool.false_and] at hn;simp [hn]
  ·rw [dec_end (by omega) (by omega)] at hn;simp [hlt,hn]
 ·refine hC.go [] 60 ?_;simp [h3,dec_len h3]
theorem ok_content {s:Sc}(h:s.ok=true){k:Kd}(hk:k∈s.kinds):k.content.right=true:=(kind_names (Sc.ok_kind h hk)).2.2
theorem all_drop {α:Type}(p:α→Bool){l:List α}{i:Nat}(h:i<l.length):(l.drop i).all p=(p l[i]&&(l.drop (i+1)).all p):=by
 rw [List.drop_eq_getElem_cons h,List.all_cons]
noncomputable def dig32 (id:Nat):Code:=match Tryz.f10.body with
 |some c=>(dig 200 id c).getD .ret
 |none=>.ret
theorem tame_fit {k:Kd}(hf:k.fit)(hr:k.content.right=true):Tame k.content:=right_tame hr (by have:=hf.2.2.1;omega)
set_option maxRecDepth 20000 in
set_option maxHeartbeats 4000000 in
theorem h32k {l:List Kd}{b:Sc}{k:Kd}(hfit:k.fit)(hrt:k.content.right=true)(hob:b.ok=true)(hb:b.fit)(n i:Int){va:AV}{ops:Array Oper}{kk:List Item}{C:Ctx}(hC:Rd C Tryz.prog tab10 T8 92 [.tmp 4] va (keyed 0 []))(hva:b.sameK k=false→va=vB false)
 (hk:b.sameK k=true→Go.Abs.Go C (.top (.code (.region 13 ops false)::kk) ⟨[(3,.ptr (.loc 3) 0),(52,.pv (kds l)),(53,vI n),(54,vI i)],[(.loc 3,some (.box 25 b.cells))]⟩)) :
 Go.Abs.Go C (.top (.code (dig32 6) :: .inBlock 1 :: .code (.region 13 ops false)::kk) ⟨[(3,.ptr (.loc 3) 0),(6,.ptr (.loc 6) 0),(52,.pv (kds l)),(53,vI n),(54,vI i)],[(.loc 3,some (.box 25 b.cells)),(.loc 6,some (.box 45 k.cells))]⟩):=by
 have cf:=g21 tab10 b k.name;have of1:=c17 hfit.2.1 (by have:=hfit.2.2.1;omega) hrt;have ht:=tame_fit hfit hrt;have hsk:b.sameK k=((b.find k.name).2&&decide (k.attrs=(b.find k.name).1.attrs)&&sameB k.content (b.find k.name).1.content):=rfl;show Go.Abs.Go C (.top (.code (.seq _ _)::_) _);refine hC.til [13] [] 60 ?_;simp [Kd.cells,E.cells,Sc.cells];refine hC.call [] cf (by simp [Sc.av,Sc.cells,Kd.av,Kd.cells,E.cells]) ?_;rcases find_cases b k.name with ⟨_,h2⟩|⟨_,m,h1,h2,h3⟩
 ·rw [h2] at hsk ⊢;have:=hva hsk;subst this;refine hC.til [13] [] 60 ?_;simp [Kd.av,Kd.cells,E.cells,Sc.cells]
 ·rw [h1] at hsk ⊢;simp only [Bool.true_and] at hsk;have mfit:=hb.1 m h3;have mrt:=ok_content hob h3;have mt:=tame_fit mfit mrt;have of2:=c17 mfit.2.1 (by have:=mfit.2.2.1;omega) mrt;have sb:=c25 ht mt;generalize sameB k.content m.content=sb1 at sb hsk;generalize k.content.dfa=x at of1 sb;generalize m.content.dfa=y at of2 sb;refine hC.til [13] [] 60 ?_;simp [Kd.av,Kd.cells,E.cells,Sc.cells];refine hC.call [] (h64 tab10 k.attrs m.attrs) (by simp) ?_;cases he:decide (k.attrs=m.attrs) with
  |false=>
   rw [he,Bool.false_and] at hsk;have:=hva hsk;subst this;refine hC.til [13] [] 60 ?_;simp [Kd.cells,E.cells]
  |true=>
   rw [he,Bool.true_and] at hsk;refine hC.til [13] [] 60 ?_;simp [Kd.cells,E.cells];refine hC.call [] of1 (by simp [E.av,E.cells,Au.av,Au.cells]) ?_;refine hC.til [13] [] 60 ?_;simp [Kd.cells,E.cells,Au.av,Au.cells];refine hC.call [] of2 (by simp [E.av,E.cells,Au.av,Au.cells]) ?_;refine hC.til [13] [] 60 ?_;simp [Kd.cells,E.cells,Au.av,Au.cells];refine hC.call [] sb (by simp [Au.av,Au.cells]) ?_;cases sb1 with
   |false=>
    have:=hva hsk;subst this;refine hC.til [13] [] 60 ?_;simp [Kd.cells,E.cells,Au.cells]
   |true=>
    refine hC.til [13] [] 60 ?_;simp [Kd.cells,E.cells,Au.cells];exact go_to [] (hk hsk) (by simp [Sc.cells])
set_option maxRecDepth 20000 in
set_option maxHeartbeats 4000000 in
theorem h32 (a b:Sc)(ha:a.fit)(hb:b.fit)(hka:a.kinds.length≤1000000):Fun Tryz.prog tab10 10 [a.av,b.av] [] (vB (a.same b)) []:=by
 have r1:=g23 tab10 a ha;have r2:=g23 tab10 b hb;have q:=h63 tab10 a.marks b.marks;refine fun_of (T:=T8) (n:=92) (rs:=[.tmp 4]) Tryz.func10 (by kernel_rfl) rfl rfl rfl tok8 mixed (by simp) fun C hC=>?_;refine hC.go [] 60 ?_;simp [Sc.av,Sc.cells];refine hC.drawn (by kernel_rfl) (by simp [Sc.cells]) ?_;refine hC.go [] 60 ?_;simp [Sc.av,Sc.cells];refine hC.call [] r1 (by simp [Sc.av,Sc.cells]) ?_;cases hoa:a.ok with
 |false=>
  have hs:a.same b=false:=by simp [Sc.same,hoa]
  rw [hs] at hC;refine hC.go [] 60 ?_;simp [Sc.cells]
 |true=>
  refine hC.go [] 60 ?_;simp [Sc.av,Sc.cells];refine hC.call [] r2 (by simp [Sc.av,Sc.cells]) ?_;cases hob:b.ok with
  |false=>
   have hs:a.same b=false:=(by simp [Sc.same,hob]);rw [hs] at hC;refine hC.go [] 60 ?_;simp [Sc.cells]
  |true=>
   have ka:=(Sc.ok_kinds hoa).1;have kb:=(Sc.ok_kinds hob).1;have hta:a.top=a.kinds[0].name:=(by simp [Sc.top,ka]);have htb:b.top=b.kinds[0].name:=(by simp [Sc.top,kb]);by_cases hn:a.kinds[0].name=b.kinds[0].name
   ·by_cases hl:(a.kinds.length:Int)=b.kinds.length
    ·have hln:a.kinds.length=b.kinds.length:=(by omega);have hs1:a.same b=(decide (a.marks=b.marks)&&a.kinds.all b.sameK):=by
      simp only [Sc.same,hoa,hob,hta,htb,hn,hl,Bool.true_and,decide_true]
     refine hC.go [] 60 ?_;simp [Sc.cells,ka,kb,Kd.pv_eq,E.pv_eq,hn,hl,hln];refine hC.call [] q (by simp) ?_;by_cases hm:a.marks=b.marks
     ·have hmd:decide (a.marks=b.marks)=true:=decide_eq_true hm;rw [hmd,Bool.true_and] at hs1;refine hC.go [] 60 ?_;simp [Sc.cells,hm];refine go_loop (ι:={i:Nat // i≤a.kinds.length∧a.same b=(a.kinds.drop i).all b.sameK}) (fun x=>⟨[(3,.ptr (.loc 3) 0),(52,.pv (kds a.kinds)),(53,vI a.kinds.length),(54,vI x.1)],[(.loc 3,some (.box 25 b.cells))]⟩) (fun x=>a.kinds.length-x.1) ⟨0,by simpa using hs1⟩ [] (by simp [Sc.cells,hln]) fun x ih=>?_;obtain ⟨i,hi,hx⟩:=x;simp only at hi hx ih;by_cases hlt:i<a.kinds.length
      ·have hw:=wr64 ((i:Int)+1) (by omega);rw [all_drop _ hlt] at hx;have hmem:a.kinds[i]∈a.kinds:=List.getElem_mem hlt;have hfit:=ha.1 _ hmem;have hrt:=ok_content hoa hmem;obtain ⟨k,hkk⟩:∃k,a.kinds[i]=k:=⟨_,rfl⟩;rw [hkk] at hx hmem hfit hrt;refine hC.til [1006] [] 60 ?_;simp [hlt,hkk,Kd.pv_eq,E.pv_eq,Sc.cells];refine go_to [] (h32k (l:=a.kinds) (k:=k) hfit hrt hob hb (a.kinds.length:Int) (i:Int) hC (fun q=>by rw [hx,q,Bool.false_and]) fun q=>?_) (by simp [Sc.cells,Kd.cells,E.cells]);refine hC.go [] 60 ?_;simp;exact go_to [] (ih ⟨i+1,hlt,by rw [hx,q,Bool.true_and]⟩ (by simp;omega)) (by simp [hw,Sc.cells])
      ·rw [List.drop_eq_nil_of_le (by omega)] at hx;rw [hx] at hC;refine hC.go [] 60 ?_;simp [hlt]
     ·have hmd:decide (a.marks=b.marks)=false:=decide_eq_false hm;rw [hmd,Bool.false_and] at hs1;rw [hs1] at hC;refine hC.go [] 60 ?_;simp [Sc.cells,hm]
    ·have hs1:a.same b=false:=(by simp [Sc.same,hl]);rw [hs1] at hC;have hln:¬a.kinds.length=b.kinds.length:=(by omega);refine hC.go [] 60 ?_;simp [Sc.cells,ka,kb,Kd.pv_eq,E.pv_eq,hn,hl,hln]
   ·have hs1:a.same b=false:=(by simp [Sc.same,hta,htb,hn]);rw [hs1] at hC;refine hC.go [] 60 ?_;simp [Sc.cells,ka,kb,Kd.pv_eq,E.pv_eq,hn]
theorem kinds_place (s:Sc):∀(l:List Kd) (i j:Nat) (h:j<l.length),kindsFrom s i l=true→s.place l[j].name=((i+j:Nat):Int)
 |[],_,_,h,_=>by simp at h
 |x::l,i,j,h,hk=>by
  simp only [kindsFrom,Bool.and_eq_true,decide_eq_true_eq] at hk
  match j,h with
  |0,_=>simpa using hk.1.1
  |j+1,h=>
   have:=kinds_place s l (i+1) j (by simpa using h) hk.2;simp only [List.getElem_cons_succ];rw [this];congr 1;omega
theorem ok_place {s:Sc}(h:s.ok=true){j:Nat}(hj:j<s.kinds.length):s.place s.kinds[j].name=(j:Int):=by
 simp only [Sc.ok,Bool.and_eq_true] at h;have:=kinds_place s s.kinds 0 j hj h.1;simpa using this
structure AlikeS (a b:Sc):Prop where
 ok1:a.ok=true
 ok2:b.ok=true
 top:a.top=b.top
 len:a.kinds.length=b.kinds.length
 marks:a.marks=b.marks
 kinds:∀k∈a.kinds,∃m∈b.kinds,m.name=k.name∧m.attrs=k.attrs∧∀w,k.content.L w↔m.content.L w
set_option maxRecDepth 20000 in
theorem h67 (Gl:Granted)(l k:List ByteArray):Fun Tryz.prog Gl 27 [.pv (namesV l),.pv (namesV k)] [] (vB (decide (l=k))) []:=by
 refine fun_of (T:=T8) (n:=26) (rs:=[.tmp 4]) Tryz.func27 (by kernel_rfl) rfl rfl rfl tok8 mixed (by simp) fun C hC=>?_;refine hC.vc [] 60 ?_;by_cases hl:(l.length:Int)=k.length
 ·have hl':l.length=k.length:=by omega
  simp [hl];refine go_len 0 1 (l.map fun z=>[.val (.string z)]) (by simp) fun hlen=>?_;rw [List.length_map] at hlen;refine go_loop (ι:={i:Nat // i≤l.length∧l.take i=k.take i}) (fun x=>⟨[(0,.pv (namesV l)),(1,.pv (namesV k)),(5,vI x.1)],[]⟩) (fun x=>l.length-x.1) ⟨0,by simp⟩ [] (by simp) fun x ih=>?_;obtain ⟨i,hi,hn⟩:=x;simp only at hi hn ih;refine hC.vc [] 60 ?_;by_cases hlt:i<l.length
  ·have hlt':i<k.length:=(by omega);have hw:=wr64 ((i:Int)+1) (by omega);simp [hlt,hlt',hl'];by_cases he:l[i]=k[i]
   ·simp [hlt,hlt',he];exact go_to [] (ih ⟨i+1,hlt,by rw [List.take_add_one,List.take_add_one,hn,List.getElem?_eq_getElem hlt,List.getElem?_eq_getElem hlt',he]⟩ (by simp;omega)) (by simp [hw])
   ·have:¬l=k:=fun e=>he (by subst e;rfl);simp [hlt,hlt',he,this]
  ·rw [List.take_of_length_le (by omega),List.take_of_length_le (by omega)] at hn;have h2:¬i<k.length:=(by omega);simp [hlt,h2,hn]
 ·have:¬l=k:=fun e=>hl (by rw [e]);simp [hl,this]
set_option maxRecDepth 20000 in
set_option maxHeartbeats 4000000 in
theorem h69 (k m:Kd)(hs1:k.content.small)(hr1:k.content.right=true)(h1:Tame k.content)(hs2:m.content.small)(hr2:m.content.right=true)(h2:Tame m.content):Fun Tryz.prog tab10 29 [k.av,m.av] [] (vB (decide (k.attrs=m.attrs)&&sameB k.content m.content)) []:=by
 have of1:=c27 hs1 hr1 h1;have of2:=c27 hs2 hr2 h2;have a1:=c29 h1 h2 false;rw [Bool.not_false] at a1;rw [←apart_same];generalize apartR k.content m.content true=r at a1;obtain ⟨row,ap⟩:=r;dsimp only at a1;generalize refA k.content k.content.namesR BW=c at of1 a1;generalize refA m.content m.content.namesR BW=d at of2 a1;obtain ⟨kn,ke,l⟩:=k;obtain ⟨mn,me,l'⟩:=m;dsimp only at of1 of2 a1;refine fun_of (T:=T8) (n:=75) (rs:=[.tmp 4]) Tryz.func29 (by kernel_rfl) rfl rfl rfl tok8 mixed (by simp) fun C hC=>?_;by_cases hl:(l.length:Int)=l'.length
 ·have hl':l.length=l'.length:=by omega
  refine hC.go [] 60 ?_;simp [Kd.av,Kd.cells,E.cells,hl,hl'];refine go_len 13 2 (l.map Dc.pv) (by simp) fun hk=>?_;rw [List.length_map] at hk;refine go_loop (ι:={i:Nat // i≤l.length∧decide (l=l')=decide (l.drop i=l'.drop i)}) (fun x=>⟨[(2,.ptr (.loc 2) 0),(3,.ptr (.loc 3) 0),(5,vI x.1)],[(.loc 2,some (.box 72 (Kd.mk kn ke l).cells)),(.loc 3,some (.box 72 (Kd.mk mn me l').cells))]⟩) (fun x=>l.length-x.1) ⟨0,by simp⟩ [] (by simp [Kd.cells,E.cells]) fun x ih=>?_;obtain ⟨i,hi,hn⟩:=x;simp only at hi hn ih;by_cases hlt':i<l.length
  ·have hlt:i<l'.length:=(by omega);rw [dec_drop hlt' hlt,Dc.dec] at hn;have hw:=wr64 ((i:Int)+1) (by omega);have q:=h67 tab10 l[i].vals l'[i].vals;by_cases hnm:l[i].name=l'[i].name
   ·rw [decide_eq_true hnm,Bool.true_and] at hn;refine hC.go [] 60 ?_;simp [hlt',hlt,Kd.cells,E.cells];refine hC.drawn (by kernel_rfl) (by simp [Kd.cells,E.cells]) ?_;refine hC.go [] 60 ?_;simp [hlt',hlt,hnm,Kd.cells,E.cells];refine hC.call [] q (by simp) ?_;cases he:decide (l[i].vals=l'[i].vals) with
    |true=>
     rw [he,Bool.true_and] at hn;refine hC.go [] 60 ?_;simp [Kd.cells,E.cells];exact go_to [] (ih ⟨i+1,hlt',hn⟩ (by simp;omega)) (by simp [hw,Kd.cells,E.cells])
    |false=>
     rw [he,Bool.false_and] at hn;simp only [hn,Bool.false_and] at hC;refine hC.go [] 60 ?_;simp [Kd.cells,E.cells]
   ·rw [decide_eq_false hnm,Bool.false_and,Bool.false_and] at hn;simp only [hn,Bool.false_and] at hC;refine hC.go [] 60 ?_;simp [hlt',hlt,Kd.cells,E.cells];refine hC.drawn (by kernel_rfl) (by simp [Kd.cells,E.cells]) ?_;refine hC.go [] 60 ?_;simp [hlt',hlt,hnm,Kd.cells,E.cells]
  ·have hlt:¬i<l'.length:=(by omega);rw [dec_end (by omega) (by omega)] at hn;simp only [hn,Bool.true_and] at hC;refine hC.go [] 60 ?_;simp [hlt',hlt,hl',Kd.cells,E.cells];refine hC.call [] of1 (by simp [E.av,E.cells,Au.av,Au.cells]) ?_;refine hC.go [] 60 ?_;simp [Kd.cells,E.cells,Au.av,Au.cells];refine hC.call [] of2 (by simp [E.av,E.cells,Au.av,Au.cells]) ?_;refine hC.go [] 60 ?_;simp [Kd.cells,E.cells,Au.av,Au.cells];refine hC.call [] a1 (by simp [Au.av,Au.cells]) ?_;refine hC.go [] 60 ?_;simp [Kd.cells,E.cells,Au.av,Au.cells]
 ·have hd:decide (l=l')=false:=dec_len hl;have hl':¬l.length=l'.length:=by omega
  refine hC.go [] 60 ?_;simp [Kd.av,Kd.cells,E.cells,hl,hl',hd]
noncomputable def dig33 (id:Nat):Code:=match Tryz.f11.body with
 |some c=>(dig 200 id c).getD .ret
 |none=>.ret
set_option maxRecDepth 20000 in
set_option maxHeartbeats 4000000 in
theorem h33k {a b:Sc}{j:Nat}(hj:j<a.kinds.length)(ha:a.fit)(hoa:a.ok=true)(hob:b.ok=true)(hb:b.fit)(hbk:b.kinds.length≤1000000){va:AV}{ops:Array Oper}{kk:List Item}{C:Ctx}(hC:Rd C Tryz.prog tab10 T8 76 [.tmp 4] va (keyed 0 []))(hva:b.sameK a.kinds[j]=false→va=vB false)
 (hk:b.sameK a.kinds[j]=true→Go.Abs.Go C (.top (.code (.region 5 ops false)::kk) ⟨[(2,.ptr (.loc 2) 0),(3,.ptr (.loc 3) 0),(5,vI j)],[(.loc 2,some (.box 32 a.cells)),(.loc 3,some (.box 32 b.cells))]⟩)) :
 Go.Abs.Go C (.top (.code (dig33 6) :: .inBlock 1 :: .code (.region 5 ops false)::kk) ⟨[(2,.ptr (.loc 2) 0),(3,.ptr (.loc 3) 0),(5,vI j)],[(.loc 2,some (.box 32 a.cells)),(.loc 3,some (.box 32 b.cells))]⟩):=by
 have hmem:a.kinds[j]∈a.kinds:=List.getElem_mem hj;have hfit:=ha.1 _ hmem;have hrt:=ok_content hoa hmem;obtain ⟨k,hkk⟩:∃k,a.kinds[j]=k:=⟨_,rfl⟩;rw [hkk] at hmem hfit hrt hva hk;have cf:=g22 tab10 b k.name hbk;have ht:=tame_fit hfit hrt;have hsk:b.sameK k=((b.find k.name).2&&decide (k.attrs=(b.find k.name).1.attrs)&&sameB k.content (b.find k.name).1.content):=rfl;show Go.Abs.Go C (.top (.code (.seq _ _)::_) _);refine hC.til [5] [] 60 ?_;simp [Sc.cells];refine hC.drawn (by kernel_rfl) (by simp [Sc.cells]) ?_;refine hC.til [5] [] 60 ?_;simp [Sc.cells,hj,hkk,Kd.pv_eq,E.pv_eq];refine hC.call [] cf (by simp [Sc.av,Sc.cells]) ?_;rcases find_cases b k.name with ⟨h1,h2⟩|⟨h1,m,h4,h2,h3⟩
 ·rw [h2] at hsk;have:=hva hsk;subst this;refine hC.til [5] [] 60 ?_;simp [Sc.cells,h1];refine hC.drawn (by kernel_rfl) (by simp [Sc.cells]) ?_;refine hC.til [5] [] 60 ?_;simp [Sc.cells,h1]
 ·rw [h4] at hsk;simp only [Bool.true_and] at hsk;have mfit:=hb.1 m h3;have mrt:=ok_content hob h3;have mt:=tame_fit mfit mrt;have c69:=h69 k m hfit.2.1 hrt ht mfit.2.1 mrt mt;obtain ⟨i,hi,rfl⟩:=List.getElem_of_mem h3;have hp:b.place k.name=(i:Int):=by rw [←h2];exact ok_place hob hi
  have hi0:¬((i:Int)<0):=by omega
  rw [hp];refine hC.til [5] [] 60 ?_;simp [Sc.cells];refine hC.drawn (by kernel_rfl) (by simp [Sc.cells]) ?_;refine hC.til [5] [] 60 ?_;simp [Sc.cells,hi0,hi,hj,hkk,Kd.pv_eq,E.pv_eq];refine hC.call [] c69 (by simp [Kd.av,Kd.cells,E.cells]) ?_;rw [←hsk];cases hs:b.sameK k with
  |false=>
   have:=hva hs;subst this;refine hC.til [5] [] 60 ?_;simp [Sc.cells]
  |true=>
   refine hC.til [5] [] 60 ?_;simp [Sc.cells];exact go_to [] (hk hs) (by simp [Sc.cells])
theorem c32 {a b:Sc}(ha:a.fit)(hb:b.fit)(hka:a.kinds.length≤1000000):Fun Tryz.prog tab2 10 [a.av,b.av] [] (vB (a.same b)) []:=up10 (h32 a b ha hb hka)
set_option maxRecDepth 20000 in
set_option maxHeartbeats 4000000 in
theorem h33 (a b:Sc)(ha:a.fit)(hb:b.fit)(hka:a.kinds.length≤1000000)(hma:a.marks.length≤1000000)(hkb:b.kinds.length≤1000000)(hmb:b.marks.length≤1000000):Fun Tryz.prog tab10 11 [a.av,b.av] [] (vB (a.same b)) []:=by
 have r1:=g24 tab10 a ha hka hma;have r2:=g24 tab10 b hb hkb hmb;have q:=h67 tab10 a.marks b.marks;refine fun_of (T:=T8) (n:=76) (rs:=[.tmp 4]) Tryz.func11 (by kernel_rfl) rfl rfl rfl tok8 mixed (by simp) fun C hC=>?_;refine hC.go [] 60 ?_;simp [Sc.av,Sc.cells];refine hC.drawn (by kernel_rfl) (by simp [Sc.cells]) ?_;refine hC.go [] 60 ?_;simp [Sc.av,Sc.cells];refine hC.call [] r1 (by simp [Sc.av,Sc.cells]) ?_;cases hoa:a.ok with
 |false=>
  have hs:a.same b=false:=by simp [Sc.same,hoa]
  rw [hs] at hC;refine hC.go [] 60 ?_;simp [Sc.cells]
 |true=>
  refine hC.go [] 60 ?_;simp [Sc.av,Sc.cells];refine hC.call [] r2 (by simp [Sc.av,Sc.cells]) ?_;cases hob:b.ok with
  |false=>
   have hs:a.same b=false:=(by simp [Sc.same,hob]);rw [hs] at hC;refine hC.go [] 60 ?_;simp [Sc.cells]
  |true=>
   have ka:=(Sc.ok_kinds hoa).1;have kb:=(Sc.ok_kinds hob).1;have hta:a.top=a.kinds[0].name:=(by simp [Sc.top,ka]);have htb:b.top=b.kinds[0].name:=(by simp [Sc.top,kb]);by_cases hn:a.kinds[0].name=b.kinds[0].name
   ·by_cases hl:(a.kinds.length:Int)=b.kinds.length
    ·have hln:a.kinds.length=b.kinds.length:=(by omega);have hs1:a.same b=(decide (a.marks=b.marks)&&a.kinds.all b.sameK):=by
      simp only [Sc.same,hoa,hob,hta,htb,hn,hl,Bool.true_and,decide_true]
     refine hC.go [] 60 ?_;simp [Sc.cells,ka,kb,Kd.pv_eq,E.pv_eq,hn,hl,hln];refine hC.call [] q (by simp) ?_;by_cases hm:a.marks=b.marks
     ·have hmd:decide (a.marks=b.marks)=true:=decide_eq_true hm;rw [hmd,Bool.true_and] at hs1;refine hC.go [] 60 ?_;simp [Sc.cells,hm];refine go_loop (ι:={i:Nat // i≤a.kinds.length∧a.same b=(a.kinds.drop i).all b.sameK}) (fun x=>⟨[(2,.ptr (.loc 2) 0),(3,.ptr (.loc 3) 0),(5,vI x.1)],[(.loc 2,some (.box 32 a.cells)),(.loc 3,some (.box 32 b.cells))]⟩) (fun x=>a.kinds.length-x.1) ⟨0,by simpa using hs1⟩ [] (by simp [Sc.cells,hm]) fun x ih=>?_;obtain ⟨i,hi,hx⟩:=x;simp only at hi hx ih;by_cases hlt:i<a.kinds.length
      ·have hw:=wr64 ((i:Int)+1) (by omega);rw [all_drop _ hlt] at hx;refine hC.til [1006] [] 60 ?_;simp [hlt,Sc.cells];show GoS C _ _;refine go_seq ?_;refine go_block ?_;show Go.Abs.Go C (.top _ _);refine go_to [] (h33k (a:=a) hlt ha hoa hob hb hkb hC (fun q=>by rw [hx,q,Bool.false_and]) fun q=>?_) (by simp [Sc.cells]);refine hC.go [] 60 ?_;simp;exact go_to [] (ih ⟨i+1,hlt,by rw [hx,q,Bool.true_and]⟩ (by simp;omega)) (by simp [hw,Sc.cells])
      ·rw [List.drop_eq_nil_of_le (by omega)] at hx;rw [hx] at hC;refine hC.go [] 60 ?_;simp [hlt,Sc.cells]
     ·have hmd:decide (a.marks=b.marks)=false:=decide_eq_false hm;rw [hmd,Bool.false_and] at hs1;rw [hs1] at hC;refine hC.go [] 60 ?_;simp [Sc.cells,hm]
    ·have hs1:a.same b=false:=(by simp [Sc.same,hl]);rw [hs1] at hC;have hln:¬a.kinds.length=b.kinds.length:=(by omega);refine hC.go [] 60 ?_;simp [Sc.cells,ka,kb,Kd.pv_eq,E.pv_eq,hn,hl,hln]
   ·have hs1:a.same b=false:=(by simp [Sc.same,hta,htb,hn]);rw [hs1] at hC;refine hC.go [] 60 ?_;simp [Sc.cells,ka,kb,Kd.pv_eq,E.pv_eq,hn]
set_option maxRecDepth 20000 in
set_option maxHeartbeats 4000000 in
theorem h10 (a b:Sc)(ha:a.wide)(hb:b.wide):Fun Tryz.prog tab2 3 [a.av,b.av] [] (vB true) []:=by
 have sh:=upT g16;have la:=g17 tab2 a ha;have lb:=g17 tab2 b hb;refine fun_of (T:=T8) (n:=33) (rs:=[.tmp 4]) Tryz.func3 (by kernel_rfl) rfl rfl rfl tok8 mixed (by simp) fun C hC=>?_;refine hC.go [] 60 ?_;simp [Sc.av,Sc.cells];refine hC.call [] sh (by simp) ?_;refine hC.go [] 60 ?_;simp [Sc.av,Sc.cells];refine hC.call [] la (by simp [Sc.av,Sc.cells]) ?_;refine hC.go [] 60 ?_;simp [Sc.av,Sc.cells];refine hC.call [] lb (by simp [Sc.av,Sc.cells]) ?_;cases hla:a.lite with
 |false=>
  refine hC.go [] 60 ?_;simp [Sc.cells]
 |true=>
  cases hlb:b.lite with
  |false=>
   refine hC.go [] 60 ?_;simp [Sc.cells]
  |true=>
   obtain ⟨fa,ka,ma,ca⟩:=lite_fit ha hla;obtain ⟨fb,kb,mb,cb⟩:=lite_fit hb hlb;have asa:=g18 tab2 a (fun k hkm=>by have:=ca k hkm;omega) (by omega);have asb:=g18 tab2 b (fun k hkm=>by have:=cb k hkm;omega) (by omega);have s1:=c32 fa fb (by omega);have s2:=up10 (h33 a b fa fb (by omega) (by omega) (by omega) (by omega));generalize a.same b=Sab at s1 s2;refine hC.go [] 60 ?_;simp [Sc.cells];refine hC.drawn (by kernel_rfl) (by simp [Sc.cells]) ?_;refine hC.go [] 60 ?_;simp [Sc.cells];refine hC.call [] s1 (by simp [Sc.av,Sc.cells]) ?_;refine hC.go [] 60 ?_;simp [Sc.cells];refine hC.call [] asa (by simp [Sc.av,Sc.cells]) ?_;refine hC.go [] 60 ?_;simp [Sc.av,Sc.cells];refine hC.call [] asb (by simp [Sc.av,Sc.cells]) ?_;refine hC.go [] 60 ?_;simp [Sc.av,Sc.cells];refine hC.call [] s2 (by simp [Sc.av,Sc.cells]) ?_;refine hC.go [] 60 ?_;simp [Sc.cells]
end Go.Proofs.D
