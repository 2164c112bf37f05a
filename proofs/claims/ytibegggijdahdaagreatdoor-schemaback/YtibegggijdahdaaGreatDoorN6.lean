/-
  SCHEMAS: are two the same?
-/
import Derived.Test.YtibegggijdahdaaGreatDoorZ8
import Derived.Test.YtibegggijdahdaaGreatDoorN0
import Derived.Test.YtibegggijdahdaaGreatDoorS5
import Derived.Test.YtibegggijdahdaaGreatDoorS25
import Derived.Test.YtibegggijdahdaaGreatDoorH30
import Derived.Test.YtibegggijdahdaaGreatDoorG3
import Derived.Test.YtibegggijdahdaaGreatDoorH9
set_option linter.unusedVariables false
set_option linter.unusedSimpArgs false
namespace Go.Proofs.D
open Go Go.Abs Go.RowKit
noncomputable def Sc.sameK (b:Sc)(k:Kd):Bool:=(b.find k.name).2&&decide (k.attrs=(b.find k.name).1.attrs)&&sameB k.content (b.find k.name).1.content
def Sc.top (s:Sc):ByteArray:=((s.kinds[0]?).getD k0).name
noncomputable def Sc.same (a b:Sc):Bool:=a.ok&&(b.ok&&(decide (a.top=b.top)&&(decide ((a.kinds.length:Int)=b.kinds.length)&&(decide (a.marks=b.marks)&&a.kinds.all b.sameK))))
theorem Dc.dec (a b:Dc):decide (a=b)=(decide (a.name=b.name)&&decide (a.vals=b.vals)):=by
 obtain ⟨x,y⟩:=a;obtain ⟨x',y'⟩:=b;simp [Dc.mk.injEq,Bool.decide_and]
theorem h65 (Gl:Granted)(a b:Dc):Fun Tryz.prog Gl 23 [a.av,b.av] [] (vB (decide (a=b))) []:=by
 rw [Dc.dec];have h63:=h63 Gl a.vals b.vals;refine fun_of (T:=T8) (n:=17) (rs:=[.tmp 4]) Tryz.func23 (by kernel_rfl) rfl rfl rfl tok8 mixed (by simp) fun C hC=>?_;by_cases h:a.name=b.name
 ·refine hC.go [] 60 ?_;simp [h];refine hC.call [] h63 (by simp) ?_;refine hC.go [] 60 ?_;simp [h]
 ·refine hC.go [] 60 ?_;simp [h]
theorem h64 (Gl:Granted)(l m:List Dc):Fun Tryz.prog Gl 22 [.pv (dcs l),.pv (dcs m),.fn (.func 23) [] []] [] (vB (decide (l=m))) []:=by
 refine fun_of (T:=T8) (n:=32) (rs:=[.tmp 6]) Tryz.func22 (by kernel_rfl) rfl rfl rfl tok8 mixed (by simp) fun C hC=>?_;by_cases h3:(l.length:Int)=m.length
 ·have h3':l.length=m.length:=by omega
  refine hC.go [] 60 ?_;simp [h3];refine go_len 0 2 (l.map Dc.pv) (by simp) fun hk=>?_;rw [List.length_map] at hk;refine go_loop (ι:={i:Nat // i≤l.length∧decide (l=m)=decide (l.drop i=m.drop i)}) (fun x=>⟨[(15,.pv (dcs l)),(1,.pv (dcs m)),(2,.fn (.func 23) [] []),(16,vI m.length),(17,vI x.1)],[]⟩)
   (fun x=>l.length-x.1) ⟨0,by simp⟩ [] (by simp) fun x ih=>?_
  obtain ⟨i,hi,hn⟩:=x;simp only at hi hn ih;refine hC.go [] 60 ?_;by_cases hlt:i<m.length
  ·have hlt':i<l.length:=(by omega);rw [dec_drop hlt' hlt] at hn;have hw:=wr64 ((i:Int)+1) (by omega);simp [hlt,hlt'];refine hC.call [] (h65 Gl l[i] m[i]) (by simp) ?_;refine hC.go [] 60 ?_;cases he:decide (l[i]=m[i]) with
   |true=>
    rw [he,Bool.true_and] at hn;simp;exact go_to [] (ih ⟨i+1,hlt',hn⟩ (by simp;omega)) (by simp [hw])
   |false=>
    rw [he,Bool.false_and] at hn;simp [hn]
  ·rw [dec_end (by omega) (by omega)] at hn;simp [hlt,hn]
 ·refine hC.go [] 60 ?_;simp [h3,dec_len h3]
theorem ok_content {s:Sc}(h:s.ok=true){k:Kd}(hk:k∈s.kinds):k.content.right=true:=(kind_names (Sc.ok_kind h hk)).2.2
theorem all_drop {α:Type}(p:α→Bool){l:List α}{i:Nat}(h:i<l.length):(l.drop i).all p=(p l[i]&&(l.drop (i+1)).all p):=by
 rw [List.drop_eq_getElem_cons h,List.all_cons]
noncomputable def dig32 (id:Nat):Code:=match Tryz.f10.body with
 |some c=>(dig 200 id c).getD .ret
 |none=>.ret
theorem tame_fit {k:Kd}(hf:k.fit)(hr:k.content.right=true):Tame k.content:=right_tame hr (by have:=hf.2.2.1;omega)
set_option maxRecDepth 20000 in
set_option maxHeartbeats 4000000 in
theorem h32k {l:List Kd}{b:Sc}{k:Kd}(hfit:k.fit)(hrt:k.content.right=true)(hob:b.ok=true)(hb:b.fit)(n i:Int){va:AV}{ops:Array Oper}{kk:List Item}{C:Ctx}(hC:Rd C Tryz.prog tab10 T8 92 [.tmp 4] va (keyed 0 []))(hva:b.sameK k=false→va=vB false)
 (hk:b.sameK k=true→Go.Abs.Go C (.top (.code (.region 13 ops false)::kk) ⟨[(3,.ptr (.loc 3) 0),(52,.pv (kds l)),(53,vI n),(54,vI i)],[(.loc 3,some (.box 25 b.cells))]⟩)) :
 Go.Abs.Go C (.top (.code (dig32 6) :: .inBlock 1 :: .code (.region 13 ops false)::kk) ⟨[(3,.ptr (.loc 3) 0),(6,.ptr (.loc 6) 0),(52,.pv (kds l)),(53,vI n),(54,vI i)],[(.loc 3,some (.box 25 b.cells)),(.loc 6,some (.box 45 k.cells))]⟩):=by
 have cf:=g21 tab10 b k.name;have of1:=c17 hfit.2.1 (by have:=hfit.2.2.1;omega) hrt;have ht:=tame_fit hfit hrt;have hsk:b.sameK k=((b.find k.name).2&&decide (k.attrs=(b.find k.name).1.attrs)&&sameB k.content (b.find k.name).1.content):=rfl;show Go.Abs.Go C (.top (.code (.seq _ _)::_) _);refine hC.til [13] [] 60 ?_;simp [Kd.cells,E.cells,Sc.cells];refine hC.call [] cf (by simp [Sc.av,Sc.cells,Kd.av,Kd.cells,E.cells]) ?_;rcases find_cases b k.name with ⟨_,h2⟩|⟨_,m,h1,h2,h3⟩
 ·rw [h2] at hsk ⊢;have:=hva hsk;subst this;refine hC.til [13] [] 60 ?_;simp [Kd.av,Kd.cells,E.cells,Sc.cells]
 ·rw [h1] at hsk ⊢;simp only [Bool.true_and] at hsk;have mfit:=hb.1 m h3;have mrt:=ok_content hob h3;have mt:=tame_fit mfit mrt;have of2:=c17 mfit.2.1 (by have:=mfit.2.2.1;omega) mrt;have sb:=c25 ht mt;generalize sameB k.content m.content=sb1 at sb hsk;generalize k.content.dfa=x at of1 sb;generalize m.content.dfa=y at of2 sb;refine hC.til [13] [] 60 ?_;simp [Kd.av,Kd.cells,E.cells,Sc.cells];refine hC.call [] (h64 tab10 k.attrs m.attrs) (by simp) ?_;cases he:decide (k.attrs=m.attrs) with
  |false=>
   rw [he,Bool.false_and] at hsk;have:=hva hsk;subst this;refine hC.til [13] [] 60 ?_;simp [Kd.cells,E.cells]
  |true=>
   rw [he,Bool.true_and] at hsk;refine hC.til [13] [] 60 ?_;simp [Kd.cells,E.cells];refine hC.call [] of1 (by simp [E.av,E.cells,Au.av,Au.cells]) ?_;refine hC.til [13] [] 60 ?_;simp [Kd.cells,E.cells,Au.av,Au.cells];refine hC.call [] of2 (by simp [E.av,E.cells,Au.av,Au.cells]) ?_;refine hC.til [13] [] 60 ?_;simp [Kd.cells,E.cells,Au.av,Au.cells];refine hC.call [] sb (by simp [Au.av,Au.cells]) ?_;cases sb1 with
   |false=>
    have:=hva hsk;subst this;refine hC.til [13] [] 60 ?_;simp [Kd.cells,E.cells,Au.cells]
   |true=>
    refine hC.til [13] [] 60 ?_;simp [Kd.cells,E.cells,Au.cells];exact go_to [] (hk hsk) (by simp [Sc.cells])
set_option maxRecDepth 20000 in
set_option maxHeartbeats 4000000 in
theorem h32 (a b:Sc)(ha:a.fit)(hb:b.fit)(hka:a.kinds.length≤1000000):Fun Tryz.prog tab10 10 [a.av,b.av] [] (vB (a.same b)) []:=by
 have r1:=g23 tab10 a ha;have r2:=g23 tab10 b hb;have q:=h63 tab10 a.marks b.marks;refine fun_of (T:=T8) (n:=92) (rs:=[.tmp 4]) Tryz.func10 (by kernel_rfl) rfl rfl rfl tok8 mixed (by simp) fun C hC=>?_;refine hC.go [] 60 ?_;simp [Sc.av,Sc.cells];refine hC.drawn (by kernel_rfl) (by simp [Sc.cells]) ?_;refine hC.go [] 60 ?_;simp [Sc.av,Sc.cells];refine hC.call [] r1 (by simp [Sc.av,Sc.cells]) ?_;cases hoa:a.ok with
 |false=>
  have hs:a.same b=false:=by simp [Sc.same,hoa]
  rw [hs] at hC;refine hC.go [] 60 ?_;simp [Sc.cells]
 |true=>
  refine hC.go [] 60 ?_;simp [Sc.av,Sc.cells];refine hC.call [] r2 (by simp [Sc.av,Sc.cells]) ?_;cases hob:b.ok with
  |false=>
   have hs:a.same b=false:=(by simp [Sc.same,hob]);rw [hs] at hC;refine hC.go [] 60 ?_;simp [Sc.cells]
  |true=>
   have ka:=(Sc.ok_kinds hoa).1;have kb:=(Sc.ok_kinds hob).1;have hta:a.top=a.kinds[0].name:=(by simp [Sc.top,ka]);have htb:b.top=b.kinds[0].name:=(by simp [Sc.top,kb]);by_cases hn:a.kinds[0].name=b.kinds[0].name
   ·by_cases hl:(a.kinds.length:Int)=b.kinds.length
    ·have hln:a.kinds.length=b.kinds.length:=(by omega);have hs1:a.same b=(decide (a.marks=b.marks)&&a.kinds.all b.sameK):=by
      simp only [Sc.same,hoa,hob,hta,htb,hn,hl,Bool.true_and,decide_true]
     refine hC.go [] 60 ?_;simp [Sc.cells,ka,kb,Kd.pv_eq,E.pv_eq,hn,hl,hln];refine hC.call [] q (by simp) ?_;by_cases hm:a.marks=b.marks
     ·have hmd:decide (a.marks=b.marks)=true:=decide_eq_true hm;rw [hmd,Bool.true_and] at hs1;refine hC.go [] 60 ?_;simp [Sc.cells,hm];refine go_loop (ι:={i:Nat // i≤a.kinds.length∧a.same b=(a.kinds.drop i).all b.sameK}) (fun x=>⟨[(3,.ptr (.loc 3) 0),(52,.pv (kds a.kinds)),(53,vI a.kinds.length),(54,vI x.1)],[(.loc 3,some (.box 25 b.cells))]⟩) (fun x=>a.kinds.length-x.1) ⟨0,by simpa using hs1⟩ [] (by simp [Sc.cells,hln]) fun x ih=>?_;obtain ⟨i,hi,hx⟩:=x;simp only at hi hx ih;by_cases hlt:i<a.kinds.length
      ·have hw:=wr64 ((i:Int)+1) (by omega);rw [all_drop _ hlt] at hx;have hmem:a.kinds[i]∈a.kinds:=List.getElem_mem hlt;have hfit:=ha.1 _ hmem;have hrt:=ok_content hoa hmem;obtain ⟨k,hkk⟩:∃k,a.kinds[i]=k:=⟨_,rfl⟩;rw [hkk] at hx hmem hfit hrt;refine hC.til [1006] [] 60 ?_;simp [hlt,hkk,Kd.pv_eq,E.pv_eq,Sc.cells];refine go_to [] (h32k (l:=a.kinds) (k:=k) hfit hrt hob hb (a.kinds.length:Int) (i:Int) hC (fun q=>by rw [hx,q,Bool.false_and]) fun q=>?_) (by simp [Sc.cells,Kd.cells,E.cells]);refine hC.go [] 60 ?_;simp;exact go_to [] (ih ⟨i+1,hlt,by rw [hx,q,Bool.true_and]⟩ (by simp;omega)) (by simp [hw,Sc.cells])
      ·rw [List.drop_eq_nil_of_le (by omega)] at hx;rw [hx] at hC;refine hC.go [] 60 ?_;simp [hlt]
     ·have hmd:decide (a.marks=b.marks)=false:=decide_eq_false hm;rw [hmd,Bool.false_and] at hs1;rw [hs1] at hC;refine hC.go [] 60 ?_;simp [Sc.cells,hm]
    ·have hs1:a.same b=false:=(by simp [Sc.same,hl]);rw [hs1] at hC;have hln:¬a.kinds.length=b.kinds.length:=(by omega);refine hC.go [] 60 ?_;simp [Sc.cells,ka,kb,Kd.pv_eq,E.pv_eq,hn,hl,hln]
   ·have hs1:a.same b=false:=(by simp [Sc.same,hta,htb,hn]);rw [hs1] at hC;refine hC.go [] 60 ?_;simp [Sc.cells,ka,kb,Kd.pv_eq,E.pv_eq,hn]
theorem kinds_place (s:Sc):∀(l:List Kd) (i j:Nat) (h:j<l.length),kindsFrom s i l=true→s.place l[j].name=((i+j:Nat):Int)
 |[],_,_,h,_=>by simp at h
 |x::l,i,j,h,hk=>by
  simp only [kindsFrom,Bool.and_eq_true,decide_eq_true_eq] at hk
  match j,h with
  |0,_=>simpa using hk.1.1
  |j+1,h=>
   have:=kinds_place s l (i+1) j (by simpa using h) hk.2;simp only [List.getElem_cons_succ];rw [this];congr 1;omega
theorem ok_place {s:Sc}(h:s.ok=true){j:Nat}(hj:j<s.kinds.length):s.place s.kinds[j].name=(j:Int):=by
 simp only [Sc.ok,Bool.and_eq_true] at h;have:=kinds_place s s.kinds 0 j hj h.1;simpa using this
theorem ok_find {s:Sc}(h:s.ok=true){k:Kd}(hk:k∈s.kinds):s.find k.name=(k,true):=by
 obtain ⟨j,hj,rfl⟩:=List.getElem_of_mem hk;have hp:=ok_place h hj;unfold Sc.find;rw [if_neg (by omega),hp];simp [hj]
theorem ok_name_inj {s:Sc}(h:s.ok=true){k m:Kd}(hk:k∈s.kinds)(hm:m∈s.kinds)(e:k.name=m.name):k=m:=by
 have h1:=ok_find h hk;have h2:=ok_find h hm;rw [e,h2] at h1;exact (congrArg Prod.fst h1).symm
theorem ok_names_nodup {s:Sc}(h:s.ok=true):(s.kinds.map (·.name)).Nodup:=by
 unfold List.Nodup;rw [List.pairwise_map];refine List.pairwise_iff_getElem.2 fun i j hi hj hij e=>?_;have h1:=ok_place h hi;have h2:=ok_place h hj;rw [e,h2] at h1;omega
theorem find_name {s:Sc}{name:ByteArray}{k:Kd}(h:s.find name=(k,true)):k.name=name∧k∈s.kinds:=by
 rcases find_cases s name with ⟨_,h2⟩|⟨_,k',h1,h2,h3⟩
 ·rw [h2] at h;simp at h
 ·rw [h1] at h;simp only [Prod.mk.injEq,and_true] at h;subst h;exact ⟨h2,h3⟩
structure AlikeS (a b:Sc):Prop where
 ok1:a.ok=true
 ok2:b.ok=true
 top:a.top=b.top
 len:a.kinds.length=b.kinds.length
 marks:a.marks=b.marks
 kinds:∀k∈a.kinds,∃m∈b.kinds,m.name=k.name∧m.attrs=k.attrs∧∀w,k.content.L w↔m.content.L w
theorem sameK_iff {b:Sc}(hb:b.ok=true)(k:Kd):b.sameK k=true↔∃m∈b.kinds,m.name=k.name∧m.attrs=k.attrs∧∀w,k.content.L w↔m.content.L w:=by
 unfold Sc.sameK;constructor
 ·intro h;simp only [Bool.and_eq_true,decide_eq_true_eq] at h;obtain ⟨⟨h1,h2⟩,h3⟩:=h;obtain ⟨h4,h5⟩:=find_name (k:=(b.find k.name).1) (s:=b) (name:=k.name) (by rw [←h1]);exact ⟨_,h5,h4,h2.symm,same_iff.1 h3⟩
 ·rintro ⟨m,hm,h1,h2,h3⟩
  have:=ok_find hb hm;rw [h1] at this;rw [this];simp only [Bool.and_eq_true,decide_eq_true_eq,Bool.true_and];exact ⟨h2.symm,same_iff.2 h3⟩
theorem same_alike (a b:Sc):a.same b=true↔AlikeS a b:=by
 unfold Sc.same;simp only [Bool.and_eq_true,decide_eq_true_eq,List.all_eq_true];constructor
 ·rintro ⟨h1,h2,h3,h4,h5,h6⟩
  exact ⟨h1,h2,h3,by omega,h5,fun k hk=>(sameK_iff h2 k).1 (h6 k hk)⟩
 ·intro h;exact ⟨h.ok1,h.ok2,h.top,by have:=h.len;omega,h.marks,fun k hk=>(sameK_iff h.ok2 k).2 (h.kinds k hk)⟩
theorem AlikeS.symm {a b:Sc}(h:AlikeS a b):AlikeS b a:=by
 refine ⟨h.ok2,h.ok1,h.top.symm,h.len.symm,h.marks.symm,fun m hm=>?_⟩;have hex:m.name∈a.kinds.map (·.name):=Classical.byContradiction fun hn=>by
  have:=nodup_sub_len (m.name::a.kinds.map (·.name)) (b.kinds.map (·.name)) (List.nodup_cons.2 ⟨hn,ok_names_nodup h.ok1⟩) fun x hx=>by
   rcases List.mem_cons.1 hx with rfl|hx
   ·exact List.mem_map.2 ⟨m,hm,rfl⟩
   ·obtain ⟨k,hk,rfl⟩:=List.mem_map.1 hx;obtain ⟨m',hm',e,_⟩:=h.kinds k hk;exact List.mem_map.2 ⟨m',hm',e⟩
  have hl:=h.len;simp only [List.length_cons,List.length_map] at this;omega
 obtain ⟨k,hk,e⟩:=List.mem_map.1 hex;obtain ⟨m',hm',e1,e2,e3⟩:=h.kinds k hk;obtain rfl:m'=m:=ok_name_inj h.ok2 hm' hm (e1.trans e);exact ⟨k,hk,e,e2.symm,fun w=>(e3 w).symm⟩
theorem AlikeS.trans {a b c:Sc}(h:AlikeS a b)(h':AlikeS b c):AlikeS a c:=by
 refine ⟨h.ok1,h'.ok2,h.top.trans h'.top,h.len.trans h'.len,h.marks.trans h'.marks,fun k hk=>?_⟩;obtain ⟨m,hm,e1,e2,e3⟩:=h.kinds k hk;obtain ⟨n,hn,f1,f2,f3⟩:=h'.kinds m hm;exact ⟨n,hn,f1.trans e1,f2.trans e2,fun w=>(e3 w).trans (f3 w)⟩
theorem Sc.same_self (a:Sc):a.same a=a.ok:=by
 rw [Bool.eq_iff_iff,same_alike];exact ⟨fun h=>h.ok1,fun h=>⟨h,h,rfl,rfl,rfl,fun k hk=>⟨k,hk,rfl,rfl,fun _=>Iff.rfl⟩⟩⟩
set_option maxRecDepth 20000 in
theorem h67 (Gl:Granted)(l k:List ByteArray):Fun Tryz.prog Gl 27 [.pv (namesV l),.pv (namesV k)] [] (vB (decide (l=k))) []:=by
 refine fun_of (T:=T8) (n:=26) (rs:=[.tmp 4]) Tryz.func27 (by kernel_rfl) rfl rfl rfl tok8 mixed (by simp) fun C hC=>?_;refine hC.vc [] 60 ?_;by_cases hl:(l.length:Int)=k.length
 ·have hl':l.length=k.length:=by omega
  simp [hl];refine go_len 0 1 (l.map fun z=>[.val (.string z)]) (by simp) fun hlen=>?_;rw [List.length_map] at hlen;refine go_loop (ι:={i:Nat // i≤l.length∧l.take i=k.take i}) (fun x=>⟨[(0,.pv (namesV l)),(1,.pv (namesV k)),(5,vI x.1)],[]⟩) (fun x=>l.length-x.1) ⟨0,by simp⟩ [] (by simp) fun x ih=>?_;obtain ⟨i,hi,hn⟩:=x;simp only at hi hn ih;refine hC.vc [] 60 ?_;by_cases hlt:i<l.length
  ·have hlt':i<k.length:=(by omega);have hw:=wr64 ((i:Int)+1) (by omega);simp [hlt,hlt',hl'];by_cases he:l[i]=k[i]
   ·simp [hlt,hlt',he];exact go_to [] (ih ⟨i+1,hlt,by rw [List.take_add_one,List.take_add_one,hn,List.getElem?_eq_getElem hlt,List.getElem?_eq_getElem hlt',he]⟩ (by simp;omega)) (by simp [hw])
   ·have:¬l=k:=fun e=>he (by subst e;rfl);simp [hlt,hlt',he,this]
  ·rw [List.take_of_length_le (by omega),List.take_of_length_le (by omega)] at hn;have h2:¬i<k.length:=(by omega);simp [hlt,h2,hn]
 ·have:¬l=k:=fun e=>hl (by rw [e]);simp [hl,this]
set_option maxRecDepth 20000 in
set_option maxHeartbeats 4000000 in
theorem h69 (k m:Kd)(hs1:k.content.small)(hr1:k.content.right=true)(h1:Tame k.content)(hs2:m.content.small)(hr2:m.content.right=true)(h2:Tame m.content):Fun Tryz.prog tab10 29 [k.av,m.av] [] (vB (decide (k.attrs=m.attrs)&&sameB k.content m.content)) []:=by
 have of1:=c27 hs1 hr1 h1;have of2:=c27 hs2 hr2 h2;have a1:=c29 h1 h2 false;rw [Bool.not_false] at a1;rw [←apart_same];generalize apartR k.content m.content true=r at a1;obtain ⟨row,ap⟩:=r;dsimp only at a1;generalize refA k.content k.content.namesR BW=c at of1 a1;generalize refA m.content m.content.namesR BW=d at of2 a1;obtain ⟨kn,ke,l⟩:=k;obtain ⟨mn,me,l'⟩:=m;dsimp only at of1 of2 a1;refine fun_of (T:=T8) (n:=75) (rs:=[.tmp 4]) Tryz.func29 (by kernel_rfl) rfl rfl rfl tok8 mixed (by simp) fun C hC=>?_;by_cases hl:(l.length:Int)=l'.length
 ·have hl':l.length=l'.length:=by omega
  refine hC.go [] 60 ?_;simp [Kd.av,Kd.cells,E.cells,hl,hl'];refine go_len 13 2 (l.map Dc.pv) (by simp) fun hk=>?_;rw [List.length_map] at hk;refine go_loop (ι:={i:Nat // i≤l.length∧decide (l=l')=decide (l.drop i=l'.drop i)}) (fun x=>⟨[(2,.ptr (.loc 2) 0),(3,.ptr (.loc 3) 0),(5,vI x.1)],[(.loc 2,some (.box 72 (Kd.mk kn ke l).cells)),(.loc 3,some (.box 72 (Kd.mk mn me l').cells))]⟩) (fun x=>l.length-x.1) ⟨0,by simp⟩ [] (by simp [Kd.cells,E.cells]) fun x ih=>?_;obtain ⟨i,hi,hn⟩:=x;simp only at hi hn ih;by_cases hlt':i<l.length
  ·have hlt:i<l'.length:=(by omega);rw [dec_drop hlt' hlt,Dc.dec] at hn;have hw:=wr64 ((i:Int)+1) (by omega);have q:=h67 tab10 l[i].vals l'[i].vals;by_cases hnm:l[i].name=l'[i].name
   ·rw [decide_eq_true hnm,Bool.true_and] at hn;refine hC.go [] 60 ?_;simp [hlt',hlt,Kd.cells,E.cells];refine hC.drawn (by kernel_rfl) (by simp [Kd.cells,E.cells]) ?_;refine hC.go [] 60 ?_;simp [hlt',hlt,hnm,Kd.cells,E.cells];refine hC.call [] q (by simp) ?_;cases he:decide (l[i].vals=l'[i].vals) with
    |true=>
     rw [he,Bool.true_and] at hn;refine hC.go [] 60 ?_;simp [Kd.cells,E.cells];exact go_to [] (ih ⟨i+1,hlt',hn⟩ (by simp;omega)) (by simp [hw,Kd.cells,E.cells])
    |false=>
     rw [he,Bool.false_and] at hn;simp only [hn,Bool.false_and] at hC;refine hC.go [] 60 ?_;simp [Kd.cells,E.cells]
   ·rw [decide_eq_false hnm,Bool.false_and,Bool.false_and] at hn;simp only [hn,Bool.false_and] at hC;refine hC.go [] 60 ?_;simp [hlt',hlt,Kd.cells,E.cells];refine hC.drawn (by kernel_rfl) (by simp [Kd.cells,E.cells]) ?_;refine hC.go [] 60 ?_;simp [hlt',hlt,hnm,Kd.cells,E.cells]
  ·have hlt:¬i<l'.length:=(by omega);rw [dec_end (by omega) (by omega)] at hn;simp only [hn,Bool.true_and] at hC;refine hC.go [] 60 ?_;simp [hlt',hlt,hl',Kd.cells,E.cells];refine hC.call [] of1 (by simp [E.av,E.cells,Au.av,Au.cells]) ?_;refine hC.go [] 60 ?_;simp [Kd.cells,E.cells,Au.av,Au.cells];refine hC.call [] of2 (by simp [E.av,E.cells,Au.av,Au.cells]) ?_;refine hC.go [] 60 ?_;simp [Kd.cells,E.cells,Au.av,Au.cells];refine hC.call [] a1 (by simp [Au.av,Au.cells]) ?_;refine hC.go [] 60 ?_;simp [Kd.cells,E.cells,Au.av,Au.cells]
 ·have hd:decide (l=l')=false:=dec_len hl;have hl':¬l.length=l'.length:=by omega
  refine hC.go [] 60 ?_;simp [Kd.av,Kd.cells,E.cells,hl,hl',hd]
noncomputable def dig33 (id:Nat):Code:=match Tryz.f11.body with
 |some c=>(dig 200 id c).getD .ret
 |none=>.ret
set_option maxRecDepth 20000 in
set_option maxHeartbeats 4000000 in
theorem h33k {a b:Sc}{j:Nat}(hj:j<a.kinds.length)(ha:a.fit)(hoa:a.ok=true)(hob:b.ok=true)(hb:b.fit)(hbk:b.kinds.length≤1000000){va:AV}{ops:Array Oper}{kk:List Item}{C:Ctx}(hC:Rd C Tryz.prog tab10 T8 76 [.tmp 4] va (keyed 0 []))(hva:b.sameK a.kinds[j]=false→va=vB false)
 (hk:b.sameK a.kinds[j]=true→Go.Abs.Go C (.top (.code (.region 5 ops false)::kk) ⟨[(2,.ptr (.loc 2) 0),(3,.ptr (.loc 3) 0),(5,vI j)],[(.loc 2,some (.box 32 a.cells)),(.loc 3,some (.box 32 b.cells))]⟩)) :
 Go.Abs.Go C (.top (.code (dig33 6) :: .inBlock 1 :: .code (.region 5 ops false)::kk) ⟨[(2,.ptr (.loc 2) 0),(3,.ptr (.loc 3) 0),(5,vI j)],[(.loc 2,some (.box 32 a.cells)),(.loc 3,some (.box 32 b.cells))]⟩):=by
 have hmem:a.kinds[j]∈a.kinds:=List.getElem_mem hj;have hfit:=ha.1 _ hmem;have hrt:=ok_content hoa hmem;obtain ⟨k,hkk⟩:∃k,a.kinds[j]=k:=⟨_,rfl⟩;rw [hkk] at hmem hfit hrt hva hk;have cf:=g22 tab10 b k.name hbk;have ht:=tame_fit hfit hrt;have hsk:b.sameK k=((b.find k.name).2&&decide (k.attrs=(b.find k.name).1.attrs)&&sameB k.content (b.find k.name).1.content):=rfl;show Go.Abs.Go C (.top (.code (.seq _ _)::_) _);refine hC.til [5] [] 60 ?_;simp [Sc.cells];refine hC.drawn (by kernel_rfl) (by simp [Sc.cells]) ?_;refine hC.til [5] [] 60 ?_;simp [Sc.cells,hj,hkk,Kd.pv_eq,E.pv_eq];refine hC.call [] cf (by simp [Sc.av,Sc.cells]) ?_;rcases find_cases b k.name with ⟨h1,h2⟩|⟨h1,m,h4,h2,h3⟩
 ·rw [h2] at hsk;have:=hva hsk;subst this;refine hC.til [5] [] 60 ?_;simp [Sc.cells,h1];refine hC.drawn (by kernel_rfl) (by simp [Sc.cells]) ?_;refine hC.til [5] [] 60 ?_;simp [Sc.cells,h1]
 ·rw [h4] at hsk;simp only [Bool.true_and] at hsk;have mfit:=hb.1 m h3;have mrt:=ok_content hob h3;have mt:=tame_fit mfit mrt;have c69:=h69 k m hfit.2.1 hrt ht mfit.2.1 mrt mt;obtain ⟨i,hi,rfl⟩:=List.getElem_of_mem h3;have hp:b.place k.name=(i:Int):=by rw [←h2];exact ok_place hob hi
  have hi0:¬((i:Int)<0):=by omega
  rw [hp];refine hC.til [5] [] 60 ?_;simp [Sc.cells];refine hC.drawn (by kernel_rfl) (by simp [Sc.cells]) ?_;refine hC.til [5] [] 60 ?_;simp [Sc.cells,hi0,hi,hj,hkk,Kd.pv_eq,E.pv_eq];refine hC.call [] c69 (by simp [Kd.av,Kd.cells,E.cells]) ?_;rw [←hsk];cases hs:b.sameK k with
  |false=>
   have:=hva hs;subst this;refine hC.til [5] [] 60 ?_;simp [Sc.cells]
  |true=>
   refine hC.til [5] [] 60 ?_;simp [Sc.cells];exact go_to [] (hk hs) (by simp [Sc.cells])
theorem c32 {a b:Sc}(ha:a.fit)(hb:b.fit)(hka:a.kinds.length≤1000000):Fun Tryz.prog tab2 10 [a.av,b.av] [] (vB (a.same b)) []:=up10 (h32 a b ha hb hka)
theorem firstAt_none {α:Type}(q:α→Bool):∀(l:List α) (i:Nat),firstAt q l i<0↔∀x∈l,q x=false
 |[],i=>by simp [firstAt]
 |x::l,i=>by
  have ih:=firstAt_none q l (i+1);simp only [firstAt];split
  ·rename_i h;constructor
   ·intro h';omega
   ·intro h';have:=h' x (by simp);rw [h] at this;cases this
  ·rename_i h;rw [ih];simp only [List.mem_cons,forall_eq_or_imp];have:q x=false:=(by simpa using h);simp [this]
theorem place_neg (s:Sc)(n:ByteArray):s.place n<0↔n∉s.kinds.map (·.name):=by
 unfold Sc.place;rw [firstAt_none];simp only [isKind,decide_eq_false_iff_not,List.mem_map,not_exists,not_and]
theorem firstAt_here {α:Type}(q:α→Bool):∀(l:List α) (i j:Nat) (h:j<l.length),q l[j]=true→(∀k,(hk:k<j)→q (l[k]'(by omega))=false)→firstAt q l i=((i+j:Nat):Int)
 |[],_,_,h,_,_=>by simp at h
 |x::l,i,0,_,hq,_=>by simp only [firstAt];rw [if_pos (by simpa using hq)];simp
 |x::l,i,j+1,h,hq,hb=>by
  have h0:=hb 0 (by omega);simp only [List.getElem_cons_zero] at h0;simp only [firstAt];rw [if_neg (by rw [h0];decide)];rw [firstAt_here q l (i+1) j (by simpa using h) (by simpa using hq) fun k hk=>by
   have:=hb (k+1) (by omega);simpa using this]
  congr 1;omega
theorem nodup_place {s:Sc}(hn:(s.kinds.map (·.name)).Nodup){j:Nat}(h:j<s.kinds.length):s.place s.kinds[j].name=(j:Int):=by
 unfold Sc.place;have:=firstAt_here (isKind s.kinds[j].name) s.kinds 0 j h (by simp [isKind]) fun k hk=>by
  unfold List.Nodup at hn;rw [List.pairwise_map] at hn;have:=List.pairwise_iff_getElem.1 hn k j (by omega) h hk;simp [isKind,this]
 rw [this];simp
theorem kindsFrom_all (s:Sc)(hn:(s.kinds.map (·.name)).Nodup)(hk:∀k∈s.kinds,k.ok s=true):∀(i:Nat),i≤s.kinds.length→kindsFrom s i (s.kinds.drop i)=true:=fun i hi=>by
 induction hd:s.kinds.length-i generalizing i with
 |zero=>rw [List.drop_eq_nil_of_le (by omega)];rfl
 |succ n ih=>
  have hlt:i<s.kinds.length:=by omega
  rw [List.drop_eq_getElem_cons hlt];simp only [kindsFrom,Bool.and_eq_true,decide_eq_true_eq];exact ⟨⟨nodup_place hn hlt,hk _ (List.getElem_mem hlt)⟩,ih (i+1) hlt (by omega)⟩
theorem ok_iff (s:Sc):s.ok=true↔(s.kinds.map (·.name)).Nodup∧(∀k∈s.kinds,k.ok s=true)∧0<s.kinds.length∧s.kinds.length≤12∧s.marks.length≤12∧rise s.marks=true:=by
 constructor
 ·intro h;obtain ⟨h1,h2,h3,h4⟩:=Sc.ok_kinds h;exact ⟨ok_names_nodup h,fun k hk=>Sc.ok_kind h hk,h1,h2,h3,h4⟩
 ·rintro ⟨h1,h2,h3,h4,h5,h6⟩
  have:=kindsFrom_all s h1 h2 0 (Nat.zero_le _);rw [List.drop_zero] at this;simp only [Sc.ok,Bool.and_eq_true,decide_eq_true_eq];exact ⟨this,by omega,by omega,by omega,h6⟩
theorem kind_ok_names {s s':Sc}(h:∀n,n∈s.kinds.map (·.name)↔n∈s'.kinds.map (·.name))(k:Kd):k.ok s=k.ok s':=by
 have hu:s.unknown=s'.unknown:=by
  funext n;unfold Sc.unknown;congr 1;rw [decide_eq_decide,place_neg,place_neg,h]
 unfold Kd.ok;rw [hu]
def Sc.turned (s:Sc)(n:Nat):Sc:=⟨s.kinds.take 1++(s.kinds.drop 1).drop n++(s.kinds.drop 1).take n,s.marks⟩
theorem turned_perm (s:Sc)(n:Nat):(s.turned n).kinds.Perm s.kinds:=by
 unfold Sc.turned;simp only;have h1:s.kinds=s.kinds.take 1++s.kinds.drop 1:=(List.take_append_drop 1 s.kinds).symm;have h2:s.kinds.drop 1=(s.kinds.drop 1).take n++(s.kinds.drop 1).drop n:=(List.take_append_drop n _).symm;rw [List.append_assoc];refine List.Perm.trans (List.Perm.append_left _ List.perm_append_comm) ?_;rw [List.take_append_drop,List.take_append_drop]
theorem turned_alike {s:Sc}(h:s.ok=true)(n:Nat):AlikeS s (s.turned n):=by
 have hp:=turned_perm s n;have hlen:=hp.length_eq;have hm:∀k,k∈(s.turned n).kinds↔k∈s.kinds:=fun k=>hp.mem_iff;obtain ⟨h1,h2,h3,h4,h5,h6⟩:=(ok_iff s).1 h;have hok:(s.turned n).ok=true:=(ok_iff _).2 ⟨(hp.map _).nodup_iff.2 h1,fun k hk=>by
  rw [kind_ok_names (s':=s) fun n'=>(hp.map (·.name)).mem_iff];exact h2 k ((hm k).1 hk),by omega,by omega,h5,h6⟩
 refine ⟨h,hok,?_,hlen.symm,rfl,fun k hk=>⟨k,(hm k).2 hk,rfl,rfl,fun _=>Iff.rfl⟩⟩;unfold Sc.top Sc.turned;simp only;congr 2
 match hs:s.kinds,h3 with
 |k::l,_=>simp
theorem turned_fit {s:Sc}(h:s.fit)(n:Nat):(s.turned n).fit:=⟨fun k hk=>h.1 k ((turned_perm s n).mem_iff.1 hk),h.2⟩
theorem linesFrom_fit:∀(L:List Bs) (ks:List Kd) (ms:List ByteArray) (ks':List Kd) (ms':List ByteArray),(∀l∈L,l.length≤100000)→(∀k∈ks,k.fit)→(∀m∈ms,m.size≤M47)→linesFrom ks ms L=some (ks',ms')→(∀k∈ks',k.fit)∧∀m∈ms',m.size≤M47
 |[],ks,ms,ks',ms',_,hk,hm,h=>by
  simp only [linesFrom,Option.some.injEq,Prod.mk.injEq] at h;obtain ⟨rfl,rfl⟩:=h;exact ⟨hk,hm⟩
 |l::r,ks,ms,ks',ms',hL,hk,hm,h=>by
  have hl:=hL l (by simp);have hM:M47=140737488355328:=rfl;have hd:(l.drop 5).length≤100000:=by rw [List.length_drop];omega
  have hmF:∀m∈marksF l ms,m.size≤M47:=fun m hx=>by
   unfold marksF at hx;split at hx
   ·rcases List.mem_append.1 hx with hx|hx
    ·exact hm m hx
    ·simp at hx;rw [hx,bsize];omega
   ·exact hm m hx
  simp only [linesFrom] at h;split at h
  ·split at h
   ·rename_i hko;exact linesFrom_fit r _ _ ks' ms' (fun x hx=>hL x (by simp [hx])) (fun k hx=>by
     rcases List.mem_append.1 hx with hx|hx
     ·exact hk k hx
     ·simp at hx;rw [hx];exact (kindR_wide _ hd hko).1) hmF h
   ·cases h
  ·exact linesFrom_fit r _ _ ks' ms' (fun x hx=>hL x (by simp [hx])) hk hmF h
theorem sparse_sound (t:Bs)(ht:t.length≤1000000)(hl:∀l∈splitC 10 t,l.length≤100000):sparse t=(s0,2)∨((sparse t).2=0∧(sparse t).1.fit∧(sparse t).1.ok=true∧(sparse t).1.bytes=t):=by
 unfold sparse;cases h:linesFrom [] [] (splitC 10 t) with
 |none=>exact .inl rfl
 |some p=>
  obtain ⟨ks,ms⟩:=p;simp only;by_cases hp:(Sc.mk ks ms).print.2=0∧(Sc.mk ks ms).print.1=bs t
  ·rw [if_pos hp];right;obtain ⟨f1,f2⟩:=linesFrom_fit _ _ _ _ _ hl (fun k hk=>by cases hk) (fun m hm=>by cases hm) h;have hok:(Sc.mk ks ms).ok=true:=by
    cases ho:(Sc.mk ks ms).ok with
    |true=>rfl
    |false=>
     have h1:=hp.1;unfold Sc.print at h1;rw [if_neg (by rw [ho];decide)] at h1;cases h1
   refine ⟨rfl,⟨f1,f2⟩,hok,?_⟩;have h2:=hp.2;unfold Sc.print at h2;rw [if_pos hok] at h2;have:=congrArg (fun x:ByteArray=>x.data.toList) h2;simpa only [bs_list] using this
  ·rw [if_neg hp];exact .inl rfl
theorem print_okS {s:Sc}(h:s.ok=true):s.print=(bs s.bytes,0):=by rw [Sc.print,h];rfl
theorem print_notS {s:Sc}(h:s.ok=false):s.print=(⟨#[]⟩,2):=by rw [Sc.print,h];rfl
theorem bytes_lines {s:Sc}(h:s.ok=true)(hk:∀k∈s.kinds,k.content.cnt≤600∧k.attrs.length≤600):∀l∈splitC 10 s.bytes,l.length≤60000:=fun l hl=>by
 rw [lines_of h] at hl;rcases List.mem_append.1 hl with hl|hl
 ·obtain ⟨k,hkm,rfl⟩:=List.mem_map.1 hl;have:=line_bd (Sc.ok_kind h hkm) (hk k hkm).1 (hk k hkm).2;rw [lineK_eq,List.length_append] at this;omega
 ·rcases List.mem_append.1 hl with hl|hl
  ·obtain ⟨m,hm,rfl⟩:=List.mem_map.1 hl;have:=name8 (rise_names _ _ (Sc.ok_kinds h).2.2.2 m hm);simp only [markS,List.length_append,List.length_cons,List.length_nil];omega
  ·simp at hl;rw [hl];simp
set_option maxRecDepth 20000 in
set_option maxHeartbeats 4000000 in
theorem h33 (a b:Sc)(ha:a.fit)(hb:b.fit)(hka:a.kinds.length≤1000000)(hma:a.marks.length≤1000000)(hkb:b.kinds.length≤1000000)(hmb:b.marks.length≤1000000):Fun Tryz.prog tab10 11 [a.av,b.av] [] (vB (a.same b)) []:=by
 have r1:=g24 tab10 a ha hka hma;have r2:=g24 tab10 b hb hkb hmb;have q:=h67 tab10 a.marks b.marks;refine fun_of (T:=T8) (n:=76) (rs:=[.tmp 4]) Tryz.func11 (by kernel_rfl) rfl rfl rfl tok8 mixed (by simp) fun C hC=>?_;refine hC.go [] 60 ?_;simp [Sc.av,Sc.cells];refine hC.drawn (by kernel_rfl) (by simp [Sc.cells]) ?_;refine hC.go [] 60 ?_;simp [Sc.av,Sc.cells];refine hC.call [] r1 (by simp [Sc.av,Sc.cells]) ?_;cases hoa:a.ok with
 |false=>
  have hs:a.same b=false:=by simp [Sc.same,hoa]
  rw [hs] at hC;refine hC.go [] 60 ?_;simp [Sc.cells]
 |true=>
  refine hC.go [] 60 ?_;simp [Sc.av,Sc.cells];refine hC.call [] r2 (by simp [Sc.av,Sc.cells]) ?_;cases hob:b.ok with
  |false=>
   have hs:a.same b=false:=(by simp [Sc.same,hob]);rw [hs] at hC;refine hC.go [] 60 ?_;simp [Sc.cells]
  |true=>
   have ka:=(Sc.ok_kinds hoa).1;have kb:=(Sc.ok_kinds hob).1;have hta:a.top=a.kinds[0].name:=(by simp [Sc.top,ka]);have htb:b.top=b.kinds[0].name:=(by simp [Sc.top,kb]);by_cases hn:a.kinds[0].name=b.kinds[0].name
   ·by_cases hl:(a.kinds.length:Int)=b.kinds.length
    ·have hln:a.kinds.length=b.kinds.length:=(by omega);have hs1:a.same b=(decide (a.marks=b.marks)&&a.kinds.all b.sameK):=by
      simp only [Sc.same,hoa,hob,hta,htb,hn,hl,Bool.true_and,decide_true]
     refine hC.go [] 60 ?_;simp [Sc.cells,ka,kb,Kd.pv_eq,E.pv_eq,hn,hl,hln];refine hC.call [] q (by simp) ?_;by_cases hm:a.marks=b.marks
     ·have hmd:decide (a.marks=b.marks)=true:=decide_eq_true hm;rw [hmd,Bool.true_and] at hs1;refine hC.go [] 60 ?_;simp [Sc.cells,hm];refine go_loop (ι:={i:Nat // i≤a.kinds.length∧a.same b=(a.kinds.drop i).all b.sameK}) (fun x=>⟨[(2,.ptr (.loc 2) 0),(3,.ptr (.loc 3) 0),(5,vI x.1)],[(.loc 2,some (.box 32 a.cells)),(.loc 3,some (.box 32 b.cells))]⟩) (fun x=>a.kinds.length-x.1) ⟨0,by simpa using hs1⟩ [] (by simp [Sc.cells,hm]) fun x ih=>?_;obtain ⟨i,hi,hx⟩:=x;simp only at hi hx ih;by_cases hlt:i<a.kinds.length
      ·have hw:=wr64 ((i:Int)+1) (by omega);rw [all_drop _ hlt] at hx;refine hC.til [1006] [] 60 ?_;simp [hlt,Sc.cells];show GoS C _ _;refine go_seq ?_;refine go_block ?_;show Go.Abs.Go C (.top _ _);refine go_to [] (h33k (a:=a) hlt ha hoa hob hb hkb hC (fun q=>by rw [hx,q,Bool.false_and]) fun q=>?_) (by simp [Sc.cells]);refine hC.go [] 60 ?_;simp;exact go_to [] (ih ⟨i+1,hlt,by rw [hx,q,Bool.true_and]⟩ (by simp;omega)) (by simp [hw,Sc.cells])
      ·rw [List.drop_eq_nil_of_le (by omega)] at hx;rw [hx] at hC;refine hC.go [] 60 ?_;simp [hlt,Sc.cells]
     ·have hmd:decide (a.marks=b.marks)=false:=decide_eq_false hm;rw [hmd,Bool.false_and] at hs1;rw [hs1] at hC;refine hC.go [] 60 ?_;simp [Sc.cells,hm]
    ·have hs1:a.same b=false:=(by simp [Sc.same,hl]);rw [hs1] at hC;have hln:¬a.kinds.length=b.kinds.length:=(by omega);refine hC.go [] 60 ?_;simp [Sc.cells,ka,kb,Kd.pv_eq,E.pv_eq,hn,hl,hln]
   ·have hs1:a.same b=false:=(by simp [Sc.same,hta,htb,hn]);rw [hs1] at hC;refine hC.go [] 60 ?_;simp [Sc.cells,ka,kb,Kd.pv_eq,E.pv_eq,hn]
set_option maxRecDepth 20000 in
set_option maxHeartbeats 4000000 in
theorem h10 (a b:Sc)(ha:a.wide)(hb:b.wide):Fun Tryz.prog tab2 3 [a.av,b.av] [] (vB true) []:=by
 have sh:=upT g16;have la:=g17 tab2 a ha;have lb:=g17 tab2 b hb;refine fun_of (T:=T8) (n:=33) (rs:=[.tmp 4]) Tryz.func3 (by kernel_rfl) rfl rfl rfl tok8 mixed (by simp) fun C hC=>?_;refine hC.go [] 60 ?_;simp [Sc.av,Sc.cells];refine hC.call [] sh (by simp) ?_;refine hC.go [] 60 ?_;simp [Sc.av,Sc.cells];refine hC.call [] la (by simp [Sc.av,Sc.cells]) ?_;refine hC.go [] 60 ?_;simp [Sc.av,Sc.cells];refine hC.call [] lb (by simp [Sc.av,Sc.cells]) ?_;cases hla:a.lite with
 |false=>
  refine hC.go [] 60 ?_;simp [Sc.cells]
 |true=>
  cases hlb:b.lite with
  |false=>
   refine hC.go [] 60 ?_;simp [Sc.cells]
  |true=>
   obtain ⟨fa,ka,ma,ca⟩:=lite_fit ha hla;obtain ⟨fb,kb,mb,cb⟩:=lite_fit hb hlb;have asa:=g18 tab2 a (fun k hkm=>by have:=ca k hkm;omega) (by omega);have asb:=g18 tab2 b (fun k hkm=>by have:=cb k hkm;omega) (by omega);have s1:=c32 fa fb (by omega);have s2:=up10 (h33 a b fa fb (by omega) (by omega) (by omega) (by omega));generalize a.same b=Sab at s1 s2;refine hC.go [] 60 ?_;simp [Sc.cells];refine hC.drawn (by kernel_rfl) (by simp [Sc.cells]) ?_;refine hC.go [] 60 ?_;simp [Sc.cells];refine hC.call [] s1 (by simp [Sc.av,Sc.cells]) ?_;refine hC.go [] 60 ?_;simp [Sc.cells];refine hC.call [] asa (by simp [Sc.av,Sc.cells]) ?_;refine hC.go [] 60 ?_;simp [Sc.av,Sc.cells];refine hC.call [] asb (by simp [Sc.av,Sc.cells]) ?_;refine hC.go [] 60 ?_;simp [Sc.av,Sc.cells];refine hC.call [] s2 (by simp [Sc.av,Sc.cells]) ?_;refine hC.go [] 60 ?_;simp [Sc.cells]
def digC:Nat→Nat→Code→Option Code
 |0,_,_=>none
 |n+1,id,.seq x y=>if firstR 20 x=some id then some (.seq x y) else match digC n id x with|some c=>some c|none=>digC n id y
 |n+1,id,.block _ c=>digC n id c
 |n+1,id,.loop c=>digC n id c
 |n+1,id,.cond _ x y=>match digC n id x with|some c=>some c|none=>digC n id y
 |_,_,_=>none
noncomputable def dig11 (id:Nat):Code:=match Tryz.f4.body with
 |some c=>(digC 200 id c).getD .ret
 |none=>.ret
theorem h11b (t:Bs)(ht:t.length≤1500){C:Ctx}(hC:Rd C Tryz.prog tab2 T8 140 [.tmp 6] (vB true) (keyed 0 [])) :
 Go.Abs.Go C (.top [.code (dig11 19)] ⟨[(1,vS (bs t))],[]⟩):=by
 have hl:∀l∈splitC 10 t,l.length≤100000:=fun l hl=>by have:=splitC_len 10 t l hl;omega
 have cp:=upT (g29 t (by omega));have hs:=sparse_sound t (by omega) hl;generalize sparse t=r at cp hs;show Go.Abs.Go C (.top [.code (.seq _ _)] _);refine hC.go [] 60 ?_;simp;refine hC.call [] cp (by simp [Sc.av,Sc.cells]) ?_;rcases hs with rfl|⟨h1,h2,h3,h4⟩
 ·refine hC.go [] 60 ?_;simp [Sc.av,Sc.cells,s0,wr64 0 (by omega)]
 ·obtain ⟨c,e⟩:=r;simp only at h1 h2 h3 h4;subst h1;have cq:=g19 tab2 c h2 (fun _=>by rw [h4];omega);rw [print_okS h3,h4] at cq;refine hC.go [] 60 ?_;simp [Sc.av,Sc.cells];refine hC.call [] cq (by simp [Sc.av,Sc.cells]) ?_;refine hC.go [] 60 ?_;simp [Sc.cells]
set_option maxRecDepth 20000 in
set_option maxHeartbeats 4000000 in
theorem h11a (t:Bs)(ht:t.length≤1500)(by':Int){s:Sc}(hs:s.wide)(hl:s.lite=true)(hok:s.ok=true){C:Ctx}(hC:Rd C Tryz.prog tab2 T8 140 [.tmp 6] (vB true) (keyed 0 [])) :
 Go.Abs.Go C (.top [.code (dig11 9),.code (dig11 19)] ⟨[(1,vS (bs t)),(2,vI by'),(3,.ptr (.loc 3) 0),(9,vS (bs s.bytes))],[(.loc 3,some (.box 25 s.cells))]⟩):=by
 have tail:=h11b t ht hC;obtain ⟨hf,ka,ma,ca⟩:=lite_fit hs hl;have hbl:=bytes_bd hok ca;have hln:=bytes_lines hok ca;have cp:=upT (g29w s.bytes hbl fun l hl=>by have:=hln l hl;omega);rw [sparse_back hok fun k hk=>by have:=ca k hk;omega] at cp;have asa:=g18 tab2 s (fun k hkm=>by have:=ca k hkm;omega) (by omega);have cs:=g31 tab2 s hf (by omega) (by omega) (by omega);have h1:=(Sc.ok_kinds hok).1;show Go.Abs.Go C (.top [.code (.seq _ _),.code (.seq _ _)] _);refine hC.til [1019] [] 60 ?_;simp [Sc.cells];refine hC.call [] cp (by simp [Sc.av,Sc.cells]) ?_;refine hC.til [1019] [] 60 ?_;simp [Sc.av,Sc.cells];refine hC.drawn (by kernel_rfl) (by simp [Sc.cells]) ?_;refine hC.til [1019] [] 60 ?_;simp [Sc.cells];refine hC.call [] asa (by simp [Sc.av,Sc.cells]) ?_;refine hC.til [1019] [] 60 ?_;simp [Sc.av,Sc.cells];refine hC.call [] cs (by simp [Sc.av,Sc.cells]) ?_;refine hC.til [1019] [81] 60 ?_;simp [Sc.cells];have er:(List.take s.kinds.length (s.kinds.map Kd.pv)).tail=(s.kinds.drop 1).map Kd.pv:=by
  rw [List.take_of_length_le (by simp),←List.drop_one,List.map_drop]
 have hrl:(s.kinds.drop 1).length=s.kinds.length-1:=by simp
 rw [er];refine ⟨by omega,?_⟩;obtain ⟨rest,hrest⟩:∃rest,s.kinds.drop 1=rest:=⟨_,rfl⟩;rw [hrest] at hrl ⊢;obtain ⟨m,hm⟩:∃m:Int,m=(if ((s.kinds.length-1:Nat):Int)<by' then ((s.kinds.length-1:Nat):Int) else by'):=⟨_,rfl⟩;refine hC.min (k:=.i64) (a:=by') (b:=((s.kinds.length-1:Nat):Int)) rfl rfl rfl (by simp) ?_;rw [←hm];refine hC.til [1019] [] 2 ?_;simp;obtain ⟨n,hn,hnl⟩:∃n:Nat,(if m > 0 then m else 0)=(n:Int)∧n≤rest.length:=by
  refine ⟨(if m > 0 then m else 0).toNat,?_,?_⟩
  ·split<;>omega
  ·split
   ·subst hm;split at *<;>omega
   ·simp
 refine hC.max (k:=.i64) (a:=0) (b:=m) rfl rfl rfl (by simp) ?_;rw [hn];refine hC.til [1019] [] 60 ?_;simp [Sc.cells];refine hC.drawn (by kernel_rfl) (by simp [Sc.cells]) ?_;refine hC.til [1019] [81] 60 ?_;simp [Sc.cells,h1,Kd.pv_eq,E.pv_eq];refine hC.drawn (by kernel_rfl) (by simp [Sc.cells]) ?_;refine hC.til [1019] [] 60 ?_;simp [Sc.cells,hnl];refine ⟨⟨by omega,by omega⟩,?_⟩;refine hC.drawn (by kernel_rfl) (by simp [Sc.cells]) ?_;refine hC.til [1017] [] 60 ?_;simp [Sc.cells,hnl];refine ⟨⟨by omega,by omega⟩,?_⟩;have e1:List.take rest.length (rest.map Kd.pv)=rest.map Kd.pv:=List.take_of_length_le (by simp);have e2:(s.turned n).kinds.map Kd.pv = [PV.val (Value.string s.kinds[0].name),PV.val (Value.int IntKind.u8 s.kinds[0].content.op),PV.val (Value.string s.kinds[0].content.name),PV.ro 3 (List.map E.pv s.kinds[0].content.kids),dcs s.kinds[0].attrs]::(List.drop n (rest.map Kd.pv)++List.take n (rest.map Kd.pv)):=by
  have ht1:s.kinds.take 1 = [s.kinds[0]]:=by
   rw [List.take_one,List.head?_eq_getElem?,List.getElem?_eq_getElem h1];rfl
  unfold Sc.turned;simp only [hrest,ht1,List.map_append,List.map_cons,List.map_nil,List.map_drop,List.map_take,List.cons_append,List.nil_append,List.append_assoc,Kd.pv_eq,E.pv_eq]
 have al:=turned_alike hok n;have ft:=turned_fit hf n;have p1:s.same (s.turned n)=true:=(same_alike _ _).2 al;have p2:(s.turned n).same s=true:=(same_alike _ _).2 al.symm;have c1:=c32 hf ft (by omega);have c2:=c32 ft hf (by rw [(turned_perm s n).length_eq];omega);rw [p1] at c1;rw [p2] at c2;have hmk:(s.turned n).marks=s.marks:=rfl;refine go_to (M:=⟨[(1,vS (bs t)),(3,.ptr (.loc 3) 0),(15,.ptr (.loc 15) 0)],[(.loc 3,some (.box 25 s.cells)),(.loc 15,some (.box 25 (s.turned n).cells))]⟩) [] ?_ (by simp [Sc.cells,e1,e2,hmk]);generalize s.turned n=u at c1 c2;refine hC.til [1019] [] 60 ?_;simp [Sc.cells];refine hC.call [] c1 (by simp [Sc.av,Sc.cells]) ?_;refine hC.til [1019] [] 60 ?_;simp [Sc.cells];refine hC.call [] c2 (by simp [Sc.av,Sc.cells]) ?_;refine hC.til [1019] [] 60 ?_;simp [Sc.cells];exact go_to [] tail (by simp)
set_option maxRecDepth 20000 in
set_option maxHeartbeats 4000000 in
theorem h11 (s:Sc)(t:Bs)(by':Int)(hs:s.wide):Fun Tryz.prog tab2 4 [s.av,vS (bs t),vI by'] [] (vB true) []:=by
 have sh:=upT g16;have la:=g17 tab2 s hs;refine fun_of (T:=T8) (n:=140) (rs:=[.tmp 6]) Tryz.func4 (by kernel_rfl) rfl rfl rfl tok8 mixed (by simp) fun C hC=>?_;refine hC.go [] 60 ?_;simp [Sc.av,Sc.cells];refine hC.call [] sh (by simp) ?_;refine hC.go [] 60 ?_;simp [Sc.av,Sc.cells];refine hC.call [] la (by simp [Sc.av,Sc.cells]) ?_;cases hl:s.lite with
 |false=>
  refine hC.go [] 60 ?_;simp [Sc.cells]
 |true=>
  by_cases h15:1500<((bs t).size:Int)
  ·refine hC.go [] 60 ?_;simp [Sc.cells,h15]
  ·have htl:t.length≤1500:=(by rw [bsize] at h15;omega);obtain ⟨hf,ka,ma,ca⟩:=lite_fit hs hl;have tail:=h11b t htl hC;have cp:=g19 tab2 s hf (fun ho=>by have:=bytes_bd ho ca;omega);have cr:=g23 tab2 s hf;have cs:=c32 hf hf (by omega);rw [Sc.same_self] at cs;refine hC.go [] 60 ?_;simp [Sc.cells,h15];refine hC.call [] cp (by simp [Sc.av,Sc.cells]) ?_;cases hok:s.ok with
   |false=>
    rw [print_notS hok];rw [hok] at cr cs;refine hC.go [] 60 ?_;simp [Sc.cells];refine hC.drawn (by kernel_rfl) (by simp [Sc.cells]) ?_;refine hC.go [] 60 ?_;simp [Sc.cells];refine hC.call [] cr (by simp [Sc.av,Sc.cells]) ?_;refine hC.go [] 60 ?_;simp [Sc.cells];refine hC.call [] cs (by simp [Sc.av,Sc.cells]) ?_;refine hC.go [] 60 ?_;simp [Sc.cells];refine hC.call [] cr (by simp [Sc.av,Sc.cells]) ?_;refine hC.til [1019] [] 60 ?_;simp [Sc.cells];exact go_to [] tail (by simp)
   |true=>
    rw [print_okS hok];rw [hok] at cr cs;have mid:=h11a t htl by' hs hl hok hC;refine hC.go [] 60 ?_;simp [Sc.cells];refine hC.drawn (by kernel_rfl) (by simp [Sc.cells]) ?_;refine hC.go [] 60 ?_;simp [Sc.cells];refine hC.call [] cr (by simp [Sc.av,Sc.cells]) ?_;refine hC.go [] 60 ?_;simp [Sc.cells];refine hC.call [] cs (by simp [Sc.av,Sc.cells]) ?_;refine hC.go [] 60 ?_;simp [Sc.cells];refine hC.call [] cr (by simp [Sc.av,Sc.cells]) ?_;refine hC.til [1009] [] 60 ?_;simp [Sc.cells];exact go_to [] mid (by simp [Sc.cells])
end Go.Proofs.D
