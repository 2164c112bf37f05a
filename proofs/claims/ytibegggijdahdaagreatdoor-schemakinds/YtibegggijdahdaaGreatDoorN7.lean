/-
  SCHEMAS: are two the same?
-/
import Derived.Test.YtibegggijdahdaaGreatDoorZ8
import Derived.Test.YtibegggijdahdaaGreatDoorN0
import Derived.Test.YtibegggijdahdaaGreatDoorS5
import Derived.Test.YtibegggijdahdaaGreatDoorS20
import Derived.Test.YtibegggijdahdaaGreatDoorH30
import Derived.Test.YtibegggijdahdaaGreatDoorG3
import Derived.Test.YtibegggijdahdaaGreatDoorG18
set_option linter.unusedVariables false
set_option linter.unusedSimpArgs false
namespace Go.Proofs.D
open Go Go.Abs Go.RowKit
noncomputable def Sc.sameK (b:Sc)(k:Kd):Bool:=(b.find k.name).2&&decide (k.attrs=(b.find k.name).1.attrs)&&sameB k.content (b.find k.name).1.content
def Sc.top (s:Sc):ByteArray:=((s.kinds[0]?).getD k0).name
noncomputable def Sc.same (a b:Sc):Bool:=a.ok&&(b.ok&&(decide (a.top=b.top)&&(decide ((a.kinds.length:Int)=b.kinds.length)&&(decide (a.marks=b.marks)&&a.kinds.all b.sameK))))
theorem Dc.dec (a b:Dc):decide (a=b)=(decide (a.name=b.name)&&decide (a.vals=b.vals)):=by
 obtain ⟨x,y⟩:=a;obtain ⟨x',y'⟩:=b;simp [Dc.mk.injEq,Bool.decide_and]
theorem h65 (Gl:Granted)(a b:Dc):Fun Tryz.prog Gl 23 [a.av,b.av] [] (vB (decide (a=b))) []:=by
 rw [Dc.dec];have h63:=h63 Gl a.vals b.vals;refine fun_of (T:=T8) (n:=17) (rs:=[.tmp 4]) Tryz.func23 (by kernel_rfl) rfl rfl rfl tok8 mixed (by simp) fun C hC=>?_;by_cases h:a.name=b.name
 ·refine hC.go [] 60 ?_;simp [h];refine hC.call [] h63 (by simp) ?_;refine hC.go [] 60 ?_;simp [h]
 ·refine hC.go [] 60 ?_;simp [h]
theorem h64 (Gl:Granted)(l m:List Dc):Fun Tryz.prog Gl 22 [.pv (dcs l),.pv (dcs m),.fn (.func 23) [] []] [] (vB (decide (l=m))) []:=by
 refine fun_of (T:=T8) (n:=32) (rs:=[.tmp 6]) Tryz.func22 (by kernel_rfl) rfl rfl rfl tok8 mixed (by simp) fun C hC=>?_;by_cases h3:(l.length:Int)=m.length
 ·have h3':l.length=m.length:=by omega
  refine hC.go [] 60 ?_;simp [h3];refine go_len 0 2 (l.map Dc.pv) (by simp) fun hk=>?_;rw [List.length_map] at hk;refine go_loop (ι:={i:Nat // i≤l.length∧decide (l=m)=decide (l.drop i=m.drop i)}) (fun x=>⟨[(15,.pv (dcs l)),(1,.pv (dcs m)),(2,.fn (.func 23) [] []),(16,vI m.length),(17,vI x.1)],[]⟩)
   (fun x=>l.length-x.1) ⟨0,by simp⟩ [] (by simp) fun x ih=>?_
  obtain ⟨i,hi,hn⟩:=x;simp only at hi hn ih;refine hC.go [] 60 ?_;by_cases hlt:i<m.length
  ·have hlt':i<l.length:=(by omega);rw [dec_drop hlt' hlt] at hn;have hw:=wr64 ((i:Int)+1) (by omega);simp [hlt,hlt'];refine hC.call [] (h65 Gl l[i] m[i]) (by simp) ?_;refine hC.go [] 60 ?_;cases he:decide (l[i]=m[i]) with
   |true=>
    rw [he,Bool.true_and] at hn;simp;exact go_to [] (ih ⟨i+1,hlt',hn⟩ (by simp;omega)) (by simp [hw])
   |false=>
    rw [he,Bool.false_and] at hn;simp [hn]
  ·rw [dec_end (by omega) (by omega)] at hn;simp [hlt,hn]
 ·refine hC.go [] 60 ?_;simp [h3,dec_len h3]
theorem ok_content {s:Sc}(h:s.ok=true){k:Kd}(hk:k∈s.kinds):k.content.right=true:=(kind_names (Sc.ok_kind h hk)).2.2
theorem all_drop {α:Type}(p:α→Bool){l:List α}{i:Nat}(h:i<l.length):(l.drop i).all p=(p l[i]&&(l.drop (i+1)).all p):=by
 rw [List.drop_eq_getElem_cons h,List.all_cons]
noncomputable def dig32 (id:Nat):Code:=match Tryz.f10.body with
 |some c=>(dig 200 id c).getD .ret
 |none=>.ret
theorem tame_fit {k:Kd}(hf:k.fit)(hr:k.content.right=true):Tame k.content:=right_tame hr (by have:=hf.2.2.1;omega)
set_option maxRecDepth 20000 in
set_option maxHeartbeats 4000000 in
theorem h32k {l:List Kd}{b:Sc}{k:Kd}(hfit:k.fit)(hrt:k.content.right=true)(hob:b.ok=true)(hb:b.fit)(n i:Int){va:AV}{ops:Array Oper}{kk:List Item}{C:Ctx}(hC:Rd C Tryz.prog tab10 T8 92 [.tmp 4] va (keyed 0 []))(hva:b.sameK k=false→va=vB false)
 (hk:b.sameK k=true→Go.Abs.Go C (.top (.code (.region 13 ops false)::kk) ⟨[(3,.ptr (.loc 3) 0),(52,.pv (kds l)),(53,vI n),(54,vI i)],[(.loc 3,some (.box 25 b.cells))]⟩)) :
 Go.Abs.Go C (.top (.code (dig32 6) :: .inBlock 1 :: .code (.region 13 ops false)::kk) ⟨[(3,.ptr (.loc 3) 0),(6,.ptr (.loc 6) 0),(52,.pv (kds l)),(53,vI n),(54,vI i)],[(.loc 3,some (.box 25 b.cells)),(.loc 6,some (.box 45 k.cells))]⟩):=by
 have cf:=g21 tab10 b k.name;have of1:=c17 hfit.2.1 (by have:=hfit.2.2.1;omega) hrt;have ht:=tame_fit hfit hrt;have hsk:b.sameK k=((b.find k.name).2&&decide (k.attrs=(b.find k.name).1.attrs)&&sameB k.content (b.find k.name).1.content):=rfl;show Go.Abs.Go C (.top (.code (.seq _ _)::_) _);refine hC.til [13] [] 60 ?_;simp [Kd.cells,E.cells,Sc.cells];refine hC.call [] cf (by simp [Sc.av,Sc.cells,Kd.av,Kd.cells,E.cells]) ?_;rcases find_cases b k.name with ⟨_,h2⟩|⟨_,m,h1,h2,h3⟩
 ·rw [h2] at hsk ⊢;have:=hva hsk;subst this;refine hC.til [13] [] 60 ?_;simp [Kd.av,Kd.cells,E.cells,Sc.cells]
 ·rw [h1] at hsk ⊢;simp only [Bool.true_and] at hsk;have mfit:=hb.1 m h3;have mrt:=ok_content hob h3;have mt:=tame_fit mfit mrt;have of2:=c17 mfit.2.1 (by have:=mfit.2.2.1;omega) mrt;have sb:=c25 ht mt;generalize sameB k.content m.content=sb1 at sb hsk;generalize k.content.dfa=x at of1 sb;generalize m.content.dfa=y at of2 sb;refine hC.til [13] [] 60 ?_;simp [Kd.av,Kd.cells,E.cells,Sc.cells];refine hC.call [] (h64 tab10 k.attrs m.attrs) (by simp) ?_;cases he:decide (k.attrs=m.attrs) with
  |false=>
   rw [he,Bool.false_and] at hsk;have:=hva hsk;subst this;refine hC.til [13] [] 60 ?_;simp [Kd.cells,E.cells]
  |true=>
   rw [he,Bool.true_and] at hsk;refine hC.til [13] [] 60 ?_;simp [Kd.cells,E.cells];refine hC.call [] of1 (by simp [E.av,E.cells,Au.av,Au.cells]) ?_;refine hC.til [13] [] 60 ?_;simp [Kd.cells,E.cells,Au.av,Au.cells];refine hC.call [] of2 (by simp [E.av,E.cells,Au.av,Au.cells]) ?_;refine hC.til [13] [] 60 ?_;simp [Kd.cells,E.cells,Au.av,Au.cells];refine hC.call [] sb (by simp [Au.av,Au.cells]) ?_;cases sb1 with
   |false=>
    have:=hva hsk;subst this;refine hC.til [13] [] 60 ?_;simp [Kd.cells,E.cells,Au.cells]
   |true=>
    refine hC.til [13] [] 60 ?_;simp [Kd.cells,E.cells,Au.cells];exact go_to [] (hk hsk) (by simp [Sc.cells])
set_option maxRecDepth 20000 in
set_option maxHeartbeats 4000000 in
theorem h32 (a b:Sc)(ha:a.fit)(hb:b.fit)(hka:a.kinds.length≤1000000):Fun Tryz.prog tab10 10 [a.av,b.av] [] (vB (a.same b)) []:=by
 have r1:=g23 tab10 a ha;have r2:=g23 tab10 b hb;have q:=h63 tab10 a.marks b.marks;refine fun_of (T:=T8) (n:=92) (rs:=[.tmp 4]) Tryz.func10 (by kernel_rfl) rfl rfl rfl tok8 mixed (by simp) fun C hC=>?_;refine hC.go [] 60 ?_;simp [Sc.av,Sc.cells];refine hC.drawn (by kernel_rfl) (by simp [Sc.cells]) ?_;refine hC.go [] 60 ?_;simp [Sc.av,Sc.cells];refine hC.call [] r1 (by simp [Sc.av,Sc.cells]) ?_;cases hoa:a.ok with
 |false=>
  have hs:a.same b=false:=by simp [Sc.same,hoa]
  rw [hs] at hC;refine hC.go [] 60 ?_;simp [Sc.cells]
 |true=>
  refine hC.go [] 60 ?_;simp [Sc.av,Sc.cells];refine hC.call [] r2 (by simp [Sc.av,Sc.cells]) ?_;cases hob:b.ok with
  |false=>
   have hs:a.same b=false:=(by simp [Sc.same,hob]);rw [hs] at hC;refine hC.go [] 60 ?_;simp [Sc.cells]
  |true=>
   have ka:=(Sc.ok_kinds hoa).1;have kb:=(Sc.ok_kinds hob).1;have hta:a.top=a.kinds[0].name:=(by simp [Sc.top,ka]);have htb:b.top=b.kinds[0].name:=(by simp [Sc.top,kb]);by_cases hn:a.kinds[0].name=b.kinds[0].name
   ·by_cases hl:(a.kinds.length:Int)=b.kinds.length
    ·have hln:a.kinds.length=b.kinds.length:=(by omega);have hs1:a.same b=(decide (a.marks=b.marks)&&a.kinds.all b.sameK):=by
      simp only [Sc.same,hoa,hob,hta,htb,hn,hl,Bool.true_and,decide_true]
     refine hC.go [] 60 ?_;simp [Sc.cells,ka,kb,Kd.pv_eq,E.pv_eq,hn,hl,hln];refine hC.call [] q (by simp) ?_;by_cases hm:a.marks=b.marks
     ·have hmd:decide (a.marks=b.marks)=true:=decide_eq_true hm;rw [hmd,Bool.true_and] at hs1;refine hC.go [] 60 ?_;simp [Sc.cells,hm];refine go_loop (ι:={i:Nat // i≤a.kinds.length∧a.same b=(a.kinds.drop i).all b.sameK}) (fun x=>⟨[(3,.ptr (.loc 3) 0),(52,.pv (kds a.kinds)),(53,vI a.kinds.length),(54,vI x.1)],[(.loc 3,some (.box 25 b.cells))]⟩) (fun x=>a.kinds.length-x.1) ⟨0,by simpa using hs1⟩ [] (by simp [Sc.cells,hln]) fun x ih=>?_;obtain ⟨i,hi,hx⟩:=x;simp only at hi hx ih;by_cases hlt:i<a.kinds.length
      ·have hw:=wr64 ((i:Int)+1) (by omega);rw [all_drop _ hlt] at hx;have hmem:a.kinds[i]∈a.kinds:=List.getElem_mem hlt;have hfit:=ha.1 _ hmem;have hrt:=ok_content hoa hmem;obtain ⟨k,hkk⟩:∃k,a.kinds[i]=k:=⟨_,rfl⟩;rw [hkk] at hx hmem hfit hrt;refine hC.til [1006] [] 60 ?_;simp [hlt,hkk,Kd.pv_eq,E.pv_eq,Sc.cells];refine go_to [] (h32k (l:=a.kinds) (k:=k) hfit hrt hob hb (a.kinds.length:Int) (i:Int) hC (fun q=>by rw [hx,q,Bool.false_and]) fun q=>?_) (by simp [Sc.cells,Kd.cells,E.cells]);refine hC.go [] 60 ?_;simp;exact go_to [] (ih ⟨i+1,hlt,by rw [hx,q,Bool.true_and]⟩ (by simp;omega)) (by simp [hw,Sc.cells])
      ·rw [List.drop_eq_nil_of_le (by omega)] at hx;rw [hx] at hC;refine hC.go [] 60 ?_;simp [hlt]
     ·have hmd:decide (a.marks=b.marks)=false:=decide_eq_false hm;rw [hmd,Bool.false_and] at hs1;rw [hs1] at hC;refine hC.go [] 60 ?_;simp [Sc.cells,hm]
    ·have hs1:a.same b=false:=(by simp [Sc.same,hl]);rw [hs1] at hC;have hln:¬a.kinds.length=b.kinds.length:=(by omega);refine hC.go [] 60 ?_;simp [Sc.cells,ka,kb,Kd.pv_eq,E.pv_eq,hn,hl,hln]
   ·have hs1:a.same b=false:=(by simp [Sc.same,hta,htb,hn]);rw [hs1] at hC;refine hC.go [] 60 ?_;simp [Sc.cells,ka,kb,Kd.pv_eq,E.pv_eq,hn]
theorem kinds_place (s:Sc):∀(l:List Kd) (i j:Nat) (h:j<l.length),kindsFrom s i l=true→s.place l[j].name=((i+j:Nat):Int)
 |[],_,_,h,_=>by simp at h
 |x::l,i,j,h,hk=>by
  simp only [kindsFrom,Bool.and_eq_true,decide_eq_true_eq] at hk
  match j,h with
  |0,_=>simpa using hk.1.1
  |j+1,h=>
   have:=kinds_place s l (i+1) j (by simpa using h) hk.2;simp only [List.getElem_cons_succ];rw [this];congr 1;omega
theorem ok_place {s:Sc}(h:s.ok=true){j:Nat}(hj:j<s.kinds.length):s.place s.kinds[j].name=(j:Int):=by
 simp only [Sc.ok,Bool.and_eq_true] at h;have:=kinds_place s s.kinds 0 j hj h.1;simpa using this
theorem ok_find {s:Sc}(h:s.ok=true){k:Kd}(hk:k∈s.kinds):s.find k.name=(k,true):=by
 obtain ⟨j,hj,rfl⟩:=List.getElem_of_mem hk;have hp:=ok_place h hj;unfold Sc.find;rw [if_neg (by omega),hp];simp [hj]
theorem ok_name_inj {s:Sc}(h:s.ok=true){k m:Kd}(hk:k∈s.kinds)(hm:m∈s.kinds)(e:k.name=m.name):k=m:=by
 have h1:=ok_find h hk;have h2:=ok_find h hm;rw [e,h2] at h1;exact (congrArg Prod.fst h1).symm
theorem ok_names_nodup {s:Sc}(h:s.ok=true):(s.kinds.map (·.name)).Nodup:=by
 unfold List.Nodup;rw [List.pairwise_map];refine List.pairwise_iff_getElem.2 fun i j hi hj hij e=>?_;have h1:=ok_place h hi;have h2:=ok_place h hj;rw [e,h2] at h1;omega
theorem find_name {s:Sc}{name:ByteArray}{k:Kd}(h:s.find name=(k,true)):k.name=name∧k∈s.kinds:=by
 rcases find_cases s name with ⟨_,h2⟩|⟨_,k',h1,h2,h3⟩
 ·rw [h2] at h;simp at h
 ·rw [h1] at h;simp only [Prod.mk.injEq,and_true] at h;subst h;exact ⟨h2,h3⟩
structure AlikeS (a b:Sc):Prop where
 ok1:a.ok=true
 ok2:b.ok=true
 top:a.top=b.top
 len:a.kinds.length=b.kinds.length
 marks:a.marks=b.marks
 kinds:∀k∈a.kinds,∃m∈b.kinds,m.name=k.name∧m.attrs=k.attrs∧∀w,k.content.L w↔m.content.L w
theorem sameK_iff {b:Sc}(hb:b.ok=true)(k:Kd):b.sameK k=true↔∃m∈b.kinds,m.name=k.name∧m.attrs=k.attrs∧∀w,k.content.L w↔m.content.L w:=by
 unfold Sc.sameK;constructor
 ·intro h;simp only [Bool.and_eq_true,decide_eq_true_eq] at h;obtain ⟨⟨h1,h2⟩,h3⟩:=h;obtain ⟨h4,h5⟩:=find_name (k:=(b.find k.name).1) (s:=b) (name:=k.name) (by rw [←h1]);exact ⟨_,h5,h4,h2.symm,same_iff.1 h3⟩
 ·rintro ⟨m,hm,h1,h2,h3⟩
  have:=ok_find hb hm;rw [h1] at this;rw [this];simp only [Bool.and_eq_true,decide_eq_true_eq,Bool.true_and];exact ⟨h2.symm,same_iff.2 h3⟩
theorem same_alike (a b:Sc):a.same b=true↔AlikeS a b:=by
 unfold Sc.same;simp only [Bool.and_eq_true,decide_eq_true_eq,List.all_eq_true];constructor
 ·rintro ⟨h1,h2,h3,h4,h5,h6⟩
  exact ⟨h1,h2,h3,by omega,h5,fun k hk=>(sameK_iff h2 k).1 (h6 k hk)⟩
 ·intro h;exact ⟨h.ok1,h.ok2,h.top,by have:=h.len;omega,h.marks,fun k hk=>(sameK_iff h.ok2 k).2 (h.kinds k hk)⟩
theorem AlikeS.symm {a b:Sc}(h:AlikeS a b):AlikeS b a:=by
 refine ⟨h.ok2,h.ok1,h.top.symm,h.len.symm,h.marks.symm,fun m hm=>?_⟩;have hex:m.name∈a.kinds.map (·.name):=Classical.byContradiction fun hn=>by
  have:=nodup_sub_len (m.name::a.kinds.map (·.name)) (b.kinds.map (·.name)) (List.nodup_cons.2 ⟨hn,ok_names_nodup h.ok1⟩) fun x hx=>by
   rcases List.mem_cons.1 hx with rfl|hx
   ·exact List.mem_map.2 ⟨m,hm,rfl⟩
   ·obtain ⟨k,hk,rfl⟩:=List.mem_map.1 hx;obtain ⟨m',hm',e,_⟩:=h.kinds k hk;exact List.mem_map.2 ⟨m',hm',e⟩
  have hl:=h.len;simp only [List.length_cons,List.length_map] at this;omega
 obtain ⟨k,hk,e⟩:=List.mem_map.1 hex;obtain ⟨m',hm',e1,e2,e3⟩:=h.kinds k hk;obtain rfl:m'=m:=ok_name_inj h.ok2 hm' hm (e1.trans e);exact ⟨k,hk,e,e2.symm,fun w=>(e3 w).symm⟩
theorem AlikeS.trans {a b c:Sc}(h:AlikeS a b)(h':AlikeS b c):AlikeS a c:=by
 refine ⟨h.ok1,h'.ok2,h.top.trans h'.top,h.len.trans h'.len,h.marks.trans h'.marks,fun k hk=>?_⟩;obtain ⟨m,hm,e1,e2,e3⟩:=h.kinds k hk;obtain ⟨n,hn,f1,f2,f3⟩:=h'.kinds m hm;exact ⟨n,hn,f1.trans e1,f2.trans e2,fun w=>(e3 w).trans (f3 w)⟩
theorem Sc.same_comm (a b:Sc):a.same b=b.same a:=by
 rw [Bool.eq_iff_iff,same_alike,same_alike];exact ⟨AlikeS.symm,AlikeS.symm⟩
set_option maxRecDepth 20000 in
theorem h67 (Gl:Granted)(l k:List ByteArray):Fun Tryz.prog Gl 27 [.pv (namesV l),.pv (namesV k)] [] (vB (decide (l=k))) []:=by
 refine fun_of (T:=T8) (n:=26) (rs:=[.tmp 4]) Tryz.func27 (by kernel_rfl) rfl rfl rfl tok8 mixed (by simp) fun C hC=>?_;refine hC.vc [] 60 ?_;by_cases hl:(l.length:Int)=k.length
 ·have hl':l.length=k.length:=by omega
  simp [hl];refine go_len 0 1 (l.map fun z=>[.val (.string z)]) (by simp) fun hlen=>?_;rw [List.length_map] at hlen;refine go_loop (ι:={i:Nat // i≤l.length∧l.take i=k.take i}) (fun x=>⟨[(0,.pv (namesV l)),(1,.pv (namesV k)),(5,vI x.1)],[]⟩) (fun x=>l.length-x.1) ⟨0,by simp⟩ [] (by simp) fun x ih=>?_;obtain ⟨i,hi,hn⟩:=x;simp only at hi hn ih;refine hC.vc [] 60 ?_;by_cases hlt:i<l.length
  ·have hlt':i<k.length:=(by omega);have hw:=wr64 ((i:Int)+1) (by omega);simp [hlt,hlt',hl'];by_cases he:l[i]=k[i]
   ·simp [hlt,hlt',he];exact go_to [] (ih ⟨i+1,hlt,by rw [List.take_add_one,List.take_add_one,hn,List.getElem?_eq_getElem hlt,List.getElem?_eq_getElem hlt',he]⟩ (by simp;omega)) (by simp [hw])
   ·have:¬l=k:=fun e=>he (by subst e;rfl);simp [hlt,hlt',he,this]
  ·rw [List.take_of_length_le (by omega),List.take_of_length_le (by omega)] at hn;have h2:¬i<k.length:=(by omega);simp [hlt,h2,hn]
 ·have:¬l=k:=fun e=>hl (by rw [e]);simp [hl,this]
set_option maxRecDepth 20000 in
set_option maxHeartbeats 4000000 in
theorem h69 (k m:Kd)(hs1:k.content.small)(hr1:k.content.right=true)(h1:Tame k.content)(hs2:m.content.small)(hr2:m.content.right=true)(h2:Tame m.content):Fun Tryz.prog tab10 29 [k.av,m.av] [] (vB (decide (k.attrs=m.attrs)&&sameB k.content m.content)) []:=by
 have of1:=c27 hs1 hr1 h1;have of2:=c27 hs2 hr2 h2;have a1:=c29 h1 h2 false;rw [Bool.not_false] at a1;rw [←apart_same];generalize apartR k.content m.content true=r at a1;obtain ⟨row,ap⟩:=r;dsimp only at a1;generalize refA k.content k.content.namesR BW=c at of1 a1;generalize refA m.content m.content.namesR BW=d at of2 a1;obtain ⟨kn,ke,l⟩:=k;obtain ⟨mn,me,l'⟩:=m;dsimp only at of1 of2 a1;refine fun_of (T:=T8) (n:=75) (rs:=[.tmp 4]) Tryz.func29 (by kernel_rfl) rfl rfl rfl tok8 mixed (by simp) fun C hC=>?_;by_cases hl:(l.length:Int)=l'.length
 ·have hl':l.length=l'.length:=by omega
  refine hC.go [] 60 ?_;simp [Kd.av,Kd.cells,E.cells,hl,hl'];refine go_len 13 2 (l.map Dc.pv) (by simp) fun hk=>?_;rw [List.length_map] at hk;refine go_loop (ι:={i:Nat // i≤l.length∧decide (l=l')=decide (l.drop i=l'.drop i)}) (fun x=>⟨[(2,.ptr (.loc 2) 0),(3,.ptr (.loc 3) 0),(5,vI x.1)],[(.loc 2,some (.box 72 (Kd.mk kn ke l).cells)),(.loc 3,some (.box 72 (Kd.mk mn me l').cells))]⟩) (fun x=>l.length-x.1) ⟨0,by simp⟩ [] (by simp [Kd.cells,E.cells]) fun x ih=>?_;obtain ⟨i,hi,hn⟩:=x;simp only at hi hn ih;by_cases hlt':i<l.length
  ·have hlt:i<l'.length:=(by omega);rw [dec_drop hlt' hlt,Dc.dec] at hn;have hw:=wr64 ((i:Int)+1) (by omega);have q:=h67 tab10 l[i].vals l'[i].vals;by_cases hnm:l[i].name=l'[i].name
   ·rw [decide_eq_true hnm,Bool.true_and] at hn;refine hC.go [] 60 ?_;simp [hlt',hlt,Kd.cells,E.cells];refine hC.drawn (by kernel_rfl) (by simp [Kd.cells,E.cells]) ?_;refine hC.go [] 60 ?_;simp [hlt',hlt,hnm,Kd.cells,E.cells];refine hC.call [] q (by simp) ?_;cases he:decide (l[i].vals=l'[i].vals) with
    |true=>
     rw [he,Bool.true_and] at hn;refine hC.go [] 60 ?_;simp [Kd.cells,E.cells];exact go_to [] (ih ⟨i+1,hlt',hn⟩ (by simp;omega)) (by simp [hw,Kd.cells,E.cells])
    |false=>
     rw [he,Bool.false_and] at hn;simp only [hn,Bool.false_and] at hC;refine hC.go [] 60 ?_;simp [Kd.cells,E.cells]
   ·rw [decide_eq_false hnm,Bool.false_and,Bool.false_and] at hn;simp only [hn,Bool.false_and] at hC;refine hC.go [] 60 ?_;simp [hlt',hlt,Kd.cells,E.cells];refine hC.drawn (by kernel_rfl) (by simp [Kd.cells,E.cells]) ?_;refine hC.go [] 60 ?_;simp [hlt',hlt,hnm,Kd.cells,E.cells]
  ·have hlt:¬i<l'.length:=(by omega);rw [dec_end (by omega) (by omega)] at hn;simp only [hn,Bool.true_and] at hC;refine hC.go [] 60 ?_;simp [hlt',hlt,hl',Kd.cells,E.cells];refine hC.call [] of1 (by simp [E.av,E.cells,Au.av,Au.cells]) ?_;refine hC.go [] 60 ?_;simp [Kd.cells,E.cells,Au.av,Au.cells];refine hC.call [] of2 (by simp [E.av,E.cells,Au.av,Au.cells]) ?_;refine hC.go [] 60 ?_;simp [Kd.cells,E.cells,Au.av,Au.cells];refine hC.call [] a1 (by simp [Au.av,Au.cells]) ?_;refine hC.go [] 60 ?_;simp [Kd.cells,E.cells,Au.av,Au.cells]
 ·have hd:decide (l=l')=false:=dec_len hl;have hl':¬l.length=l'.length:=by omega
  refine hC.go [] 60 ?_;simp [Kd.av,Kd.cells,E.cells,hl,hl',hd]
noncomputable def dig33 (id:Nat):Code:=match Tryz.f11.body with
 |some c=>(dig 200 id c).getD .ret
 |none=>.ret
set_option maxRecDepth 20000 in
set_option maxHeartbeats 4000000 in
theorem h33k {a b:Sc}{j:Nat}(hj:j<a.kinds.length)(ha:a.fit)(hoa:a.ok=true)(hob:b.ok=true)(hb:b.fit)(hbk:b.kinds.length≤1000000){va:AV}{ops:Array Oper}{kk:List Item}{C:Ctx}(hC:Rd C Tryz.prog tab10 T8 76 [.tmp 4] va (keyed 0 []))(hva:b.sameK a.kinds[j]=false→va=vB false)
 (hk:b.sameK a.kinds[j]=true→Go.Abs.Go C (.top (.code (.region 5 ops false)::kk) ⟨[(2,.ptr (.loc 2) 0),(3,.ptr (.loc 3) 0),(5,vI j)],[(.loc 2,some (.box 32 a.cells)),(.loc 3,some (.box 32 b.cells))]⟩)) :
 Go.Abs.Go C (.top (.code (dig33 6) :: .inBlock 1 :: .code (.region 5 ops false)::kk) ⟨[(2,.ptr (.loc 2) 0),(3,.ptr (.loc 3) 0),(5,vI j)],[(.loc 2,some (.box 32 a.cells)),(.loc 3,some (.box 32 b.cells))]⟩):=by
 have hmem:a.kinds[j]∈a.kinds:=List.getElem_mem hj;have hfit:=ha.1 _ hmem;have hrt:=ok_content hoa hmem;obtain ⟨k,hkk⟩:∃k,a.kinds[j]=k:=⟨_,rfl⟩;rw [hkk] at hmem hfit hrt hva hk;have cf:=g22 tab10 b k.name hbk;have ht:=tame_fit hfit hrt;have hsk:b.sameK k=((b.find k.name).2&&decide (k.attrs=(b.find k.name).1.attrs)&&sameB k.content (b.find k.name).1.content):=rfl;show Go.Abs.Go C (.top (.code (.seq _ _)::_) _);refine hC.til [5] [] 60 ?_;simp [Sc.cells];refine hC.drawn (by kernel_rfl) (by simp [Sc.cells]) ?_;refine hC.til [5] [] 60 ?_;simp [Sc.cells,hj,hkk,Kd.pv_eq,E.pv_eq];refine hC.call [] cf (by simp [Sc.av,Sc.cells]) ?_;rcases find_cases b k.name with ⟨h1,h2⟩|⟨h1,m,h4,h2,h3⟩
 ·rw [h2] at hsk;have:=hva hsk;subst this;refine hC.til [5] [] 60 ?_;simp [Sc.cells,h1];refine hC.drawn (by kernel_rfl) (by simp [Sc.cells]) ?_;refine hC.til [5] [] 60 ?_;simp [Sc.cells,h1]
 ·rw [h4] at hsk;simp only [Bool.true_and] at hsk;have mfit:=hb.1 m h3;have mrt:=ok_content hob h3;have mt:=tame_fit mfit mrt;have c69:=h69 k m hfit.2.1 hrt ht mfit.2.1 mrt mt;obtain ⟨i,hi,rfl⟩:=List.getElem_of_mem h3;have hp:b.place k.name=(i:Int):=by rw [←h2];exact ok_place hob hi
  have hi0:¬((i:Int)<0):=by omega
  rw [hp];refine hC.til [5] [] 60 ?_;simp [Sc.cells];refine hC.drawn (by kernel_rfl) (by simp [Sc.cells]) ?_;refine hC.til [5] [] 60 ?_;simp [Sc.cells,hi0,hi,hj,hkk,Kd.pv_eq,E.pv_eq];refine hC.call [] c69 (by simp [Kd.av,Kd.cells,E.cells]) ?_;rw [←hsk];cases hs:b.sameK k with
  |false=>
   have:=hva hs;subst this;refine hC.til [5] [] 60 ?_;simp [Sc.cells]
  |true=>
   refine hC.til [5] [] 60 ?_;simp [Sc.cells];exact go_to [] (hk hs) (by simp [Sc.cells])
theorem c32 {a b:Sc}(ha:a.fit)(hb:b.fit)(hka:a.kinds.length≤1000000):Fun Tryz.prog tab2 10 [a.av,b.av] [] (vB (a.same b)) []:=up10 (h32 a b ha hb hka)
theorem firstAt_none {α:Type}(q:α→Bool):∀(l:List α) (i:Nat),firstAt q l i<0↔∀x∈l,q x=false
 |[],i=>by simp [firstAt]
 |x::l,i=>by
  have ih:=firstAt_none q l (i+1);simp only [firstAt];split
  ·rename_i h;constructor
   ·intro h';omega
   ·intro h';have:=h' x (by simp);rw [h] at this;cases this
  ·rename_i h;rw [ih];simp only [List.mem_cons,forall_eq_or_imp];have:q x=false:=(by simpa using h);simp [this]
theorem place_neg (s:Sc)(n:ByteArray):s.place n<0↔n∉s.kinds.map (·.name):=by
 unfold Sc.place;rw [firstAt_none];simp only [isKind,decide_eq_false_iff_not,List.mem_map,not_exists,not_and]
theorem firstAt_here {α:Type}(q:α→Bool):∀(l:List α) (i j:Nat) (h:j<l.length),q l[j]=true→(∀k,(hk:k<j)→q (l[k]'(by omega))=false)→firstAt q l i=((i+j:Nat):Int)
 |[],_,_,h,_,_=>by simp at h
 |x::l,i,0,_,hq,_=>by simp only [firstAt];rw [if_pos (by simpa using hq)];simp
 |x::l,i,j+1,h,hq,hb=>by
  have h0:=hb 0 (by omega);simp only [List.getElem_cons_zero] at h0;simp only [firstAt];rw [if_neg (by rw [h0];decide)];rw [firstAt_here q l (i+1) j (by simpa using h) (by simpa using hq) fun k hk=>by
   have:=hb (k+1) (by omega);simpa using this]
  congr 1;omega
theorem nodup_place {s:Sc}(hn:(s.kinds.map (·.name)).Nodup){j:Nat}(h:j<s.kinds.length):s.place s.kinds[j].name=(j:Int):=by
 unfold Sc.place;have:=firstAt_here (isKind s.kinds[j].name) s.kinds 0 j h (by simp [isKind]) fun k hk=>by
  unfold List.Nodup at hn;rw [List.pairwise_map] at hn;have:=List.pairwise_iff_getElem.1 hn k j (by omega) h hk;simp [isKind,this]
 rw [this];simp
theorem kindsFrom_all (s:Sc)(hn:(s.kinds.map (·.name)).Nodup)(hk:∀k∈s.kinds,k.ok s=true):∀(i:Nat),i≤s.kinds.length→kindsFrom s i (s.kinds.drop i)=true:=fun i hi=>by
 induction hd:s.kinds.length-i generalizing i with
 |zero=>rw [List.drop_eq_nil_of_le (by omega)];rfl
 |succ n ih=>
  have hlt:i<s.kinds.length:=by omega
  rw [List.drop_eq_getElem_cons hlt];simp only [kindsFrom,Bool.and_eq_true,decide_eq_true_eq];exact ⟨⟨nodup_place hn hlt,hk _ (List.getElem_mem hlt)⟩,ih (i+1) hlt (by omega)⟩
theorem ok_iff (s:Sc):s.ok=true↔(s.kinds.map (·.name)).Nodup∧(∀k∈s.kinds,k.ok s=true)∧0<s.kinds.length∧s.kinds.length≤12∧s.marks.length≤12∧rise s.marks=true:=by
 constructor
 ·intro h;obtain ⟨h1,h2,h3,h4⟩:=Sc.ok_kinds h;exact ⟨ok_names_nodup h,fun k hk=>Sc.ok_kind h hk,h1,h2,h3,h4⟩
 ·rintro ⟨h1,h2,h3,h4,h5,h6⟩
  have:=kindsFrom_all s h1 h2 0 (Nat.zero_le _);rw [List.drop_zero] at this;simp only [Sc.ok,Bool.and_eq_true,decide_eq_true_eq];exact ⟨this,by omega,by omega,by omega,h6⟩
set_option maxRecDepth 20000 in
set_option maxHeartbeats 4000000 in
theorem h33 (a b:Sc)(ha:a.fit)(hb:b.fit)(hka:a.kinds.length≤1000000)(hma:a.marks.length≤1000000)(hkb:b.kinds.length≤1000000)(hmb:b.marks.length≤1000000):Fun Tryz.prog tab10 11 [a.av,b.av] [] (vB (a.same b)) []:=by
 have r1:=g24 tab10 a ha hka hma;have r2:=g24 tab10 b hb hkb hmb;have q:=h67 tab10 a.marks b.marks;refine fun_of (T:=T8) (n:=76) (rs:=[.tmp 4]) Tryz.func11 (by kernel_rfl) rfl rfl rfl tok8 mixed (by simp) fun C hC=>?_;refine hC.go [] 60 ?_;simp [Sc.av,Sc.cells];refine hC.drawn (by kernel_rfl) (by simp [Sc.cells]) ?_;refine hC.go [] 60 ?_;simp [Sc.av,Sc.cells];refine hC.call [] r1 (by simp [Sc.av,Sc.cells]) ?_;cases hoa:a.ok with
 |false=>
  have hs:a.same b=false:=by simp [Sc.same,hoa]
  rw [hs] at hC;refine hC.go [] 60 ?_;simp [Sc.cells]
 |true=>
  refine hC.go [] 60 ?_;simp [Sc.av,Sc.cells];refine hC.call [] r2 (by simp [Sc.av,Sc.cells]) ?_;cases hob:b.ok with
  |false=>
   have hs:a.same b=false:=(by simp [Sc.same,hob]);rw [hs] at hC;refine hC.go [] 60 ?_;simp [Sc.cells]
  |true=>
   have ka:=(Sc.ok_kinds hoa).1;have kb:=(Sc.ok_kinds hob).1;have hta:a.top=a.kinds[0].name:=(by simp [Sc.top,ka]);have htb:b.top=b.kinds[0].name:=(by simp [Sc.top,kb]);by_cases hn:a.kinds[0].name=b.kinds[0].name
   ·by_cases hl:(a.kinds.length:Int)=b.kinds.length
    ·have hln:a.kinds.length=b.kinds.length:=(by omega);have hs1:a.same b=(decide (a.marks=b.marks)&&a.kinds.all b.sameK):=by
      simp only [Sc.same,hoa,hob,hta,htb,hn,hl,Bool.true_and,decide_true]
     refine hC.go [] 60 ?_;simp [Sc.cells,ka,kb,Kd.pv_eq,E.pv_eq,hn,hl,hln];refine hC.call [] q (by simp) ?_;by_cases hm:a.marks=b.marks
     ·have hmd:decide (a.marks=b.marks)=true:=decide_eq_true hm;rw [hmd,Bool.true_and] at hs1;refine hC.go [] 60 ?_;simp [Sc.cells,hm];refine go_loop (ι:={i:Nat // i≤a.kinds.length∧a.same b=(a.kinds.drop i).all b.sameK}) (fun x=>⟨[(2,.ptr (.loc 2) 0),(3,.ptr (.loc 3) 0),(5,vI x.1)],[(.loc 2,some (.box 32 a.cells)),(.loc 3,some (.box 32 b.cells))]⟩) (fun x=>a.kinds.length-x.1) ⟨0,by simpa using hs1⟩ [] (by simp [Sc.cells,hm]) fun x ih=>?_;obtain ⟨i,hi,hx⟩:=x;simp only at hi hx ih;by_cases hlt:i<a.kinds.length
      ·have hw:=wr64 ((i:Int)+1) (by omega);rw [all_drop _ hlt] at hx;refine hC.til [1006] [] 60 ?_;simp [hlt,Sc.cells];show GoS C _ _;refine go_seq ?_;refine go_block ?_;show Go.Abs.Go C (.top _ _);refine go_to [] (h33k (a:=a) hlt ha hoa hob hb hkb hC (fun q=>by rw [hx,q,Bool.false_and]) fun q=>?_) (by simp [Sc.cells]);refine hC.go [] 60 ?_;simp;exact go_to [] (ih ⟨i+1,hlt,by rw [hx,q,Bool.true_and]⟩ (by simp;omega)) (by simp [hw,Sc.cells])
      ·rw [List.drop_eq_nil_of_le (by omega)] at hx;rw [hx] at hC;refine hC.go [] 60 ?_;simp [hlt,Sc.cells]
     ·have hmd:decide (a.marks=b.marks)=false:=decide_eq_false hm;rw [hmd,Bool.false_and] at hs1;rw [hs1] at hC;refine hC.go [] 60 ?_;simp [Sc.cells,hm]
    ·have hs1:a.same b=false:=(by simp [Sc.same,hl]);rw [hs1] at hC;have hln:¬a.kinds.length=b.kinds.length:=(by omega);refine hC.go [] 60 ?_;simp [Sc.cells,ka,kb,Kd.pv_eq,E.pv_eq,hn,hl,hln]
   ·have hs1:a.same b=false:=(by simp [Sc.same,hta,htb,hn]);rw [hs1] at hC;refine hC.go [] 60 ?_;simp [Sc.cells,ka,kb,Kd.pv_eq,E.pv_eq,hn]
set_option maxRecDepth 20000 in
set_option maxHeartbeats 4000000 in
theorem h10 (a b:Sc)(ha:a.wide)(hb:b.wide):Fun Tryz.prog tab2 3 [a.av,b.av] [] (vB true) []:=by
 have sh:=upT g16;have la:=g17 tab2 a ha;have lb:=g17 tab2 b hb;refine fun_of (T:=T8) (n:=33) (rs:=[.tmp 4]) Tryz.func3 (by kernel_rfl) rfl rfl rfl tok8 mixed (by simp) fun C hC=>?_;refine hC.go [] 60 ?_;simp [Sc.av,Sc.cells];refine hC.call [] sh (by simp) ?_;refine hC.go [] 60 ?_;simp [Sc.av,Sc.cells];refine hC.call [] la (by simp [Sc.av,Sc.cells]) ?_;refine hC.go [] 60 ?_;simp [Sc.av,Sc.cells];refine hC.call [] lb (by simp [Sc.av,Sc.cells]) ?_;cases hla:a.lite with
 |false=>
  refine hC.go [] 60 ?_;simp [Sc.cells]
 |true=>
  cases hlb:b.lite with
  |false=>
   refine hC.go [] 60 ?_;simp [Sc.cells]
  |true=>
   obtain ⟨fa,ka,ma,ca⟩:=lite_fit ha hla;obtain ⟨fb,kb,mb,cb⟩:=lite_fit hb hlb;have asa:=g18 tab2 a (fun k hkm=>by have:=ca k hkm;omega) (by omega);have asb:=g18 tab2 b (fun k hkm=>by have:=cb k hkm;omega) (by omega);have s1:=c32 fa fb (by omega);have s2:=up10 (h33 a b fa fb (by omega) (by omega) (by omega) (by omega));generalize a.same b=Sab at s1 s2;refine hC.go [] 60 ?_;simp [Sc.cells];refine hC.drawn (by kernel_rfl) (by simp [Sc.cells]) ?_;refine hC.go [] 60 ?_;simp [Sc.cells];refine hC.call [] s1 (by simp [Sc.av,Sc.cells]) ?_;refine hC.go [] 60 ?_;simp [Sc.cells];refine hC.call [] asa (by simp [Sc.av,Sc.cells]) ?_;refine hC.go [] 60 ?_;simp [Sc.av,Sc.cells];refine hC.call [] asb (by simp [Sc.av,Sc.cells]) ?_;refine hC.go [] 60 ?_;simp [Sc.av,Sc.cells];refine hC.call [] s2 (by simp [Sc.av,Sc.cells]) ?_;refine hC.go [] 60 ?_;simp [Sc.cells]
def zzzzB:ByteArray:=⟨#[122,122,122,122]⟩
def zKind:Kd:=⟨zzzzB,.mk 115 ⟨#[]⟩ [],[]⟩
def Sc.more (s:Sc):Sc:=⟨s.kinds++[zKind],s.marks⟩
theorem takes_first (d:Dc):d.takes d.first=true:=by
 unfold Dc.takes Dc.first;cases h:d.vals with
 |nil=>simp only [if_true,List.headD_nil];decide +kernel
 |cons x l=>simp
theorem find_snd (s:Sc)(n:ByteArray):(s.find n).2=decide (n∈s.kinds.map (·.name)):=by
 unfold Sc.find;by_cases h:s.place n<0
 ·rw [if_pos h];exact (decide_eq_false ((place_neg s n).1 h)).symm
 ·rw [if_neg h];exact (decide_eq_true (Classical.byContradiction fun q=>h ((place_neg s n).2 q))).symm
theorem seq_right:(E.mk 115 ⟨#[]⟩ []).right=true:=by
 have h1:(E.mk 115 ⟨#[]⟩ []).many=1:=by rw [E.many_eq];rfl
 have h2:(E.mk 115 ⟨#[]⟩ []).ok=true:=by rw [E.ok_eq];simp [E.op,E.kids,E.name]
 simp [E.right,h1,h2]
theorem seq_names:(E.mk 115 ⟨#[]⟩ []).names = []:=by
 refine List.eq_nil_iff_forall_not_mem.2 fun x hx=>?_;have:=(names_mem _ x).1 hx;rw [occ_eq] at this;simp [E.op,E.kids] at this
theorem unknown_more {s:Sc}{n:ByteArray}(h:s.more.unknown n=true):s.unknown n=true:=by
 unfold Sc.unknown at *;rw [Bool.and_eq_true,decide_eq_true_iff] at *;refine ⟨(place_neg s n).2 fun q=>?_,h.2⟩;exact (place_neg s.more n).1 h.1 (by unfold Sc.more;simp only [List.map_append];exact List.mem_append.2 (.inl q))
theorem more_ok {s:Sc}(h:s.ok=true)(hz:zzzzB∉s.kinds.map (·.name)):s.more.ok=decide ((s.kinds.length:Int)<12):=by
 obtain ⟨h1,h2,h3,h4,h5,h6⟩:=(ok_iff s).1 h;have hk:∀k∈s.more.kinds,k.ok s.more=true:=fun k hk=>by
  rcases List.mem_append.1 hk with hk|hk
  ·have:=h2 k hk;unfold Kd.ok at *;simp only [Bool.and_eq_true,Bool.not_eq_true'] at *;refine ⟨this.1,this.2.1,this.2.2.1,this.2.2.2.1,?_⟩;have q:=this.2.2.2.2;rw [List.any_eq_false] at q ⊢;exact fun x hx hu=>q x hx (unknown_more hu)
  ·simp at hk;subst hk;unfold Kd.ok zKind;simp only [seq_right,seq_names,List.all_nil,List.any_nil,List.map_nil];decide +kernel
 have hn:(s.more.kinds.map (·.name)).Nodup:=by
  unfold Sc.more;rw [List.map_append];refine List.nodup_append.2 ⟨h1,by simp,fun a ha b hb e=>?_⟩;simp [zKind] at hb;exact hz (by rw [←hb,←e];exact ha)
 have hl:s.more.kinds.length=s.kinds.length+1:=by simp [Sc.more]
 rw [Bool.eq_iff_iff,ok_iff,decide_eq_true_iff];constructor
 ·rintro ⟨_,_,_,h,_⟩;omega
 ·intro h';exact ⟨hn,hk,by omega,by omega,h5,h6⟩
theorem more_same (s:Sc):s.same s.more=false:=by
 have hl:s.more.kinds.length=s.kinds.length+1:=by simp [Sc.more]
 cases h:s.same s.more with
 |false=>rfl
 |true=>have:=((same_alike _ _).1 h).len;omega
theorem more_fit {s:Sc}(h:s.fit):s.more.fit:=⟨fun k hk=>by
 rcases List.mem_append.1 hk with hk|hk
 ·exact h.1 k hk
 ·simp at hk;subst hk;refine ⟨by decide,E.small_mk (by decide) (by simp),?_,by simp [zKind],by simp [zKind]⟩;simp [zKind,cnt_eq,E.kids],h.2⟩
noncomputable def dig12 (id:Nat):Code:=match Tryz.f5.body with
 |some c=>(dig 200 id c).getD .ret
 |none=>.ret
set_option maxRecDepth 20000 in
set_option maxHeartbeats 4000000 in
theorem h12j {s:Sc}{nm:ByteArray}{k:Kd}(i:Int)(hal:k.attrs.length≤1000000)(hvs:∀d∈k.attrs,d.first.size≤M47)(m:Bool){ops:Array Oper}{kk:List Item}{C:Ctx}(hC:Rd C Tryz.prog tab2 T8 157 [.tmp 4] (vB true) (keyed 0 []))
 (hk:Go.Abs.Go C (.top (.code (.region 8 ops false)::kk) ⟨[(1,vS nm),(2,.ptr (.loc 2) 0),(7,vB m),(8,vI i)],[(.loc 2,some (.box 25 s.cells))]⟩)) :
 Go.Abs.Go C (.top (.code (dig12 13) :: .inBlock 1 :: .code (.region 8 ops false)::kk) ⟨[(1,vS nm),(2,.ptr (.loc 2) 0),(7,vB m),(8,vI i),(9,.ptr (.loc 9) 0)],[(.loc 2,some (.box 25 s.cells)),(.loc 9,some (.box 45 k.cells))]⟩):=by
 have hM:M47=140737488355328:=rfl;show Go.Abs.Go C (.top (.code (.seq _ _)::_) _);refine hC.til [8] [] 60 ?_;simp [Kd.cells,E.cells,Sc.cells];refine go_loop (ι:={j:Nat // j≤k.attrs.length}) (fun x=>⟨[(1,vS nm),(2,.ptr (.loc 2) 0),(7,vB m),(8,vI i),(9,.ptr (.loc 9) 0),(11,vI x.1)],[(.loc 2,some (.box 25 s.cells)),(.loc 9,some (.box 45 k.cells))]⟩) (fun x=>k.attrs.length-x.1) ⟨0,by simp⟩ [] (by simp [Kd.cells,E.cells,Sc.cells]) fun x ih=>?_;obtain ⟨j,hj⟩:=x;simp only at hj ih;by_cases hlt:j<k.attrs.length
 ·have hw:=wr64 ((j:Int)+1) (by omega);have c1:=g25 tab2 k.attrs[j];have hsz:=hvs k.attrs[j] (List.getElem_mem hlt);have c2:=upT (g27 k.attrs[j] k.attrs[j].first (by omega));rw [takes_first] at c2;obtain ⟨d,hd⟩:∃d,k.attrs[j]=d:=⟨_,rfl⟩;rw [hd] at c1 c2;refine hC.til [8] [] 60 ?_;simp [hlt,Kd.cells,E.cells,Sc.cells];refine hC.drawn (by kernel_rfl) (by simp [Kd.cells,E.cells,Sc.cells]) ?_;refine hC.til [8] [] 60 ?_;simp [hlt,hd,Kd.cells,E.cells,Sc.cells];refine hC.call [] c1 (by simp) ?_;refine hC.til [8] [] 60 ?_;simp [Kd.cells,E.cells,Sc.cells];refine hC.call [] c2 (by simp) ?_;refine hC.til [8] [] 60 ?_;simp [Kd.cells,E.cells,Sc.cells];exact go_to [] (ih ⟨j+1,hlt⟩ (by simp;omega)) (by simp [hw,Kd.cells,E.cells,Sc.cells])
 ·refine hC.til [8] [] 60 ?_;simp [hlt,Kd.cells,E.cells,Sc.cells];exact go_to [] hk (by simp [Sc.cells])
theorem h12m {s:Sc}(hf:s.fit)(hok:s.ok=true)(hz:zzzzB∉s.kinds.map (·.name)){C:Ctx}(hC:Rd C Tryz.prog tab2 T8 157 [.tmp 4] (vB true) (keyed 0 [])) :
 Go.Abs.Go C (.top [.code (dig12 22)] ⟨[(2,.ptr (.loc 2) 0)],[(.loc 2,some (.box 25 s.cells))]⟩):=by
 have hl12:=(Sc.ok_kinds hok).2.1;have fm:=more_fit hf;have cr:=g23 tab2 s.more fm;rw [more_ok hok hz] at cr;have s1:=c32 hf fm (by omega);have s2:=c32 fm hf (by simp [Sc.more];omega);rw [more_same] at s1;rw [Sc.same_comm,more_same] at s2;show Go.Abs.Go C (.top [.code (.seq _ _)] _);refine hC.til [] [] 60 ?_;simp [Sc.cells];refine hC.drawn (by kernel_rfl) (by simp [Sc.cells]) ?_;refine hC.til [1023] [127] 60 ?_;simp [Sc.cells];refine ⟨⟨by omega,by omega⟩,⟨by omega,by omega⟩,?_⟩;have e1:s.more.kinds.map Kd.pv=s.kinds.map Kd.pv++[[PV.val (Value.string ⟨#[122,122,122,122]⟩),PV.val (Value.int IntKind.u8 115),PV.val (Value.string ⟨#[]⟩),PV.ro 3 [],PV.ro 2 []]]:=by
  simp [Sc.more,zKind,zzzzB,Kd.pv_eq,E.pv_eq,E.op,E.name,E.kids]
 have hmk:s.more.marks=s.marks:=rfl;refine go_to (M:=⟨[(2,.ptr (.loc 2) 0),(16,.ptr (.loc 16) 0)],[(.loc 2,some (.box 25 s.cells)),(.loc 16,some (.box 25 s.more.cells))]⟩) [] ?_ (by simp [Sc.cells,e1,hmk]);generalize s.more=u at cr s1 s2;refine hC.go [] 60 ?_;simp [Sc.cells];refine hC.drawn (by kernel_rfl) (by simp [Sc.cells]) ?_;refine hC.go [] 60 ?_;simp [Sc.cells];refine hC.call [] cr (by simp [Sc.av,Sc.cells]) ?_;by_cases h12:(s.kinds.length:Int)<12
 ·have h12n:s.kinds.length<12:=by omega
  refine hC.go [] 60 ?_;simp [Sc.cells,h12,h12n];refine hC.call [] s1 (by simp [Sc.av,Sc.cells]) ?_;refine hC.go [] 60 ?_;simp [Sc.cells];refine hC.call [] s2 (by simp [Sc.av,Sc.cells]) ?_;refine hC.go [] 60 ?_;simp [Sc.cells]
 ·have h12n:¬s.kinds.length<12:=by omega
  refine hC.go [] 60 ?_;simp [Sc.cells,h12,h12n];refine hC.call [] s1 (by simp [Sc.av,Sc.cells]) ?_;refine hC.go [] 60 ?_;simp [Sc.cells];refine hC.call [] s2 (by simp [Sc.av,Sc.cells]) ?_;refine hC.go [] 60 ?_;simp [Sc.cells]
def namesTo (s:Sc)(nm:ByteArray)(i:Nat):Bool:=decide (nm∈(s.kinds.take i).map (·.name))
theorem namesTo_succ (s:Sc)(nm:ByteArray){i:Nat}(hlt:i<s.kinds.length):namesTo s nm (i+1)=(namesTo s nm i || decide (s.kinds[i].name=nm)):=by
 unfold namesTo;rw [List.take_add_one,List.getElem?_eq_getElem hlt,List.map_append,Bool.eq_iff_iff,Bool.or_eq_true];simp only [decide_eq_true_eq,List.mem_append,Option.toList_some,List.map_cons,List.map_nil,List.mem_singleton];exact or_congr Iff.rfl eq_comm
theorem first_size {d:Dc}(h:d.fit):d.first.size≤M47:=by
 unfold Dc.first;cases hv:d.vals with
 |nil=>simp only [List.headD_nil];decide
 |cons x l=>exact h.2 x (by rw [hv];simp)
set_option maxRecDepth 20000 in
set_option maxHeartbeats 4000000 in
theorem h12 (s:Sc)(nm:ByteArray)(hs:s.wide):Fun Tryz.prog tab2 5 [s.av,vS nm] [] (vB true) []:=by
 have sh:=upT g16;have la:=g17 tab2 s hs;refine fun_of (T:=T8) (n:=157) (rs:=[.tmp 4]) Tryz.func5 (by kernel_rfl) rfl rfl rfl tok8 mixed (by simp) fun C hC=>?_;refine hC.go [] 60 ?_;simp [Sc.av,Sc.cells];refine hC.call [] sh (by simp) ?_;refine hC.go [] 60 ?_;simp [Sc.av,Sc.cells];refine hC.call [] la (by simp [Sc.av,Sc.cells]) ?_;cases hl:s.lite with
 |false=>
  refine hC.go [] 60 ?_;simp [Sc.cells]
 |true=>
  obtain ⟨hf,ka,ma,ca⟩:=lite_fit hs hl;have cr:=g23 tab2 s hf;refine hC.go [] 60 ?_;simp [Sc.cells];refine hC.call [] cr (by simp [Sc.av,Sc.cells]) ?_;cases hok:s.ok with
  |false=>
   refine hC.go [] 60 ?_;simp [Sc.cells]
  |true=>
   have cf:=g21 tab2 s nm;have cz:=g21 tab2 s zzzzB;have hz1:=find_snd s nm;have hz2:=find_snd s zzzzB;refine hC.go [] 60 ?_;simp [Sc.cells];refine go_loop (ι:={i:Nat // i≤s.kinds.length}) (fun x=>⟨[(1,vS nm),(2,.ptr (.loc 2) 0),(7,vB (namesTo s nm x.1)),(8,vI x.1)],[(.loc 2,some (.box 25 s.cells))]⟩) (fun x=>s.kinds.length-x.1) ⟨0,by simp⟩ [] (by simp [Sc.cells,namesTo]) fun x ih=>?_;obtain ⟨i,hi⟩:=x;simp only at hi ih;by_cases hlt:i<s.kinds.length
   ·have hw:=wr64 ((i:Int)+1) (by omega);have hmem:s.kinds[i]∈s.kinds:=List.getElem_mem hlt;have ci:=g21 tab2 s s.kinds[i].name;rw [ok_find hok hmem] at ci;have hfit:=hf.1 _ hmem;have hnx:=namesTo_succ s nm hlt;obtain ⟨k,hkk⟩:∃k,s.kinds[i]=k:=⟨_,rfl⟩;rw [hkk] at ci hfit hnx;refine hC.go [] 60 ?_;simp [hlt,Sc.cells];refine hC.drawn (by kernel_rfl) (by simp [Sc.cells]) ?_;refine hC.go [] 60 ?_;simp [hlt,hkk,Kd.pv_eq,E.pv_eq,Sc.cells];refine hC.call [] ci (by simp [Sc.av,Sc.cells,Kd.av,Kd.cells,E.cells]) ?_;refine hC.go [] 60 ?_;simp [hlt,hkk,Kd.pv_eq,E.pv_eq,Sc.cells,Kd.av,Kd.cells,E.cells];refine hC.drawn (by kernel_rfl) (by simp [Sc.cells]) ?_;have hal:=(ca _ hmem).2;rw [hkk] at hal;by_cases hq:k.name=nm
    ·cases hm:namesTo s nm i
     all_goals
      rw [hm,decide_eq_true hq] at hnx;refine hC.til [1013] [] 60 ?_;simp [hlt,hkk,hq,Kd.pv_eq,E.pv_eq,Sc.cells];refine go_to [] (h12j (s:=s) (nm:=nm) (k:=k) (i:Int) (by omega) (fun d hd=>first_size (hfit.2.2.2.2 d hd)) (namesTo s nm (i+1)) hC ?_) (by simp [Sc.cells,Kd.cells,E.cells,hq,hnx]);refine hC.go [] 60 ?_;simp;exact go_to [] (ih ⟨i+1,hlt⟩ (by simp;omega)) (by simp [hw,Sc.cells])
    ·cases hm:namesTo s nm i
     all_goals
      rw [hm,decide_eq_false hq] at hnx;refine hC.til [1013] [] 60 ?_;simp [hlt,hkk,hq,Kd.pv_eq,E.pv_eq,Sc.cells];refine go_to [] (h12j (s:=s) (nm:=nm) (k:=k) (i:Int) (by omega) (fun d hd=>first_size (hfit.2.2.2.2 d hd)) (namesTo s nm (i+1)) hC ?_) (by simp [Sc.cells,Kd.cells,E.cells,hnx]);refine hC.go [] 60 ?_;simp;exact go_to [] (ih ⟨i+1,hlt⟩ (by simp;omega)) (by simp [hw,Sc.cells])
   ·have hall:namesTo s nm i=decide (nm∈s.kinds.map (·.name)):=by unfold namesTo;rw [List.take_of_length_le (by omega)]
    rw [←find_snd] at hall;rw [hall];refine hC.til [1022] [] 60 ?_;simp [hlt,Sc.cells];obtain ⟨p,hp⟩:∃p,s.find nm=p:=⟨_,rfl⟩;obtain ⟨q,hq⟩:∃q,s.find zzzzB=q:=⟨_,rfl⟩;rw [hp] at cf;rw [hq] at cz hz2;rw [hp];obtain ⟨pk,pb⟩:=p;obtain ⟨qk,qb⟩:=q;simp only at cf cz hz2;dsimp only;refine hC.call [] cf (by simp [Sc.av,Sc.cells,Kd.av,Kd.cells,E.cells]) ?_;refine hC.til [1022] [] 60 ?_;simp [Sc.cells,Kd.av,Kd.cells,E.cells];refine hC.call [] cz (by simp [zzzzB,Sc.av,Sc.cells,Kd.av,Kd.cells,E.cells]) ?_;by_cases hz:zzzzB∈s.kinds.map (·.name)
    ·rw [decide_eq_true hz] at hz2;subst hz2;cases pb
     all_goals
      refine hC.til [1022] [] 60 ?_;simp [Sc.cells,Kd.av,Kd.cells,E.cells]
    ·rw [decide_eq_false hz] at hz2;subst hz2;have tail:=h12m hf hok hz hC;cases pb
     all_goals
      refine hC.til [1022] [] 60 ?_;simp [Sc.cells,Kd.av,Kd.cells,E.cells];exact go_to [] tail (by simp [Sc.cells])
end Go.Proofs.D
