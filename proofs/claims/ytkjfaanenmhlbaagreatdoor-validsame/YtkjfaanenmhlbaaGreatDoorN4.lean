/-
  SCHEMAS: are two the same?
-/
import Derived.Test.YtkjfaanenmhlbaaGreatDoorZ8
import Derived.Test.YtkjfaanenmhlbaaGreatDoorB8
import Derived.Test.YtkjfaanenmhlbaaGreatDoorS5
import Derived.Test.YtkjfaanenmhlbaaGreatDoorS20
import Derived.Test.YtkjfaanenmhlbaaGreatDoorH29p
import Derived.Test.YtkjfaanenmhlbaaGreatDoorG3
import Derived.Test.YtkjfaanenmhlbaaGreatDoorG17
set_option linter.unusedVariables false
set_option linter.unusedSimpArgs false
namespace Go.Proofs.D
open Go Go.Abs Go.RowKit
noncomputable def Sc.sameK (b:Sc)(k:Kd):Bool:=(b.find k.name).2&&decide (k.attrs=(b.find k.name).1.attrs)&&sameB k.content (b.find k.name).1.content
def Sc.top (s:Sc):ByteArray:=((s.kinds[0]?).getD k0).name
noncomputable def Sc.same (a b:Sc):Bool:=a.ok&&(b.ok&&(decide (a.top=b.top)&&(decide ((a.kinds.length:Int)=b.kinds.length)&&(decide (a.marks=b.marks)&&a.kinds.all b.sameK))))
theorem Dc.dec (a b:Dc):decide (a=b)=(decide (a.name=b.name)&&decide (a.vals=b.vals)):=by
 obtain ⟨x,y⟩:=a;obtain ⟨x',y'⟩:=b;simp [Dc.mk.injEq,Bool.decide_and]
theorem h65 (Gl:Granted)(a b:Dc):Fun Tryz.prog Gl 67 [a.av,b.av] [] (vB (decide (a=b))) []:=by
 rw [Dc.dec];have h63:=h63 Gl a.vals b.vals;refine fun_of (T:=T8) (n:=17) (rs:=[.tmp 4]) Tryz.func67 (by kernel_rfl) rfl rfl rfl tok8 mixed (by simp) fun C hC=>?_;by_cases h:a.name=b.name
 ·refine hC.go [] 60 ?_;simp [h];refine hC.call [] h63 (by simp) ?_;refine hC.go [] 60 ?_;simp [h]
 ·refine hC.go [] 60 ?_;simp [h]
theorem h64 (Gl:Granted)(l m:List Dc):Fun Tryz.prog Gl 66 [.pv (dcs l),.pv (dcs m),.fn (.func 67) [] []] [] (vB (decide (l=m))) []:=by
 refine fun_of (T:=T8) (n:=32) (rs:=[.tmp 6]) Tryz.func66 (by kernel_rfl) rfl rfl rfl tok8 mixed (by simp) fun C hC=>?_;by_cases h3:(l.length:Int)=m.length
 ·have h3':l.length=m.length:=by omega
  refine hC.go [] 60 ?_;simp [h3];refine go_len 0 2 (l.map Dc.pv) (by simp) fun hk=>?_;rw [List.length_map] at hk;refine go_loop (ι:={i:Nat // i≤l.length∧decide (l=m)=decide (l.drop i=m.drop i)}) (fun x=>⟨[(15,.pv (dcs l)),(1,.pv (dcs m)),(2,.fn (.func 67) [] []),(16,vI m.length),(17,vI x.1)],[]⟩)
   (fun x=>l.length-x.1) ⟨0,by simp⟩ [] (by simp) fun x ih=>?_
  obtain ⟨i,hi,hn⟩:=x;simp only at hi hn ih;refine hC.go [] 60 ?_;by_cases hlt:i<m.length
  ·have hlt':i<l.length:=(by omega);rw [dec_drop hlt' hlt] at hn;have hw:=wr64 ((i:Int)+1) (by omega);simp [hlt,hlt'];refine hC.call [] (h65 Gl l[i] m[i]) (by simp) ?_;refine hC.go [] 60 ?_;cases he:decide (l[i]=m[i]) with
   |true=>
    rw [he,Bool.true_and] at hn;simp;exact go_to [] (ih ⟨i+1,hlt',hn⟩ (by simp;omega)) (by simp [hw])
   |false=>
    rw [he,Bool.false_and] at hn;simp [hn]
  ·rw [dec_end (by omega) (by omega)] at hn;simp [hlt,hn]
 ·refine hC.go [] 60 ?_;simp [h3,dec_len h3]
theorem ok_content {s:Sc}(h:s.ok=true){k:Kd}(hk:k∈s.kinds):k.content.right=true:=(kind_names (Sc.ok_kind h hk)).2.2
theorem all_drop {α:Type}(p:α→Bool){l:List α}{i:Nat}(h:i<l.length):(l.drop i).all p=(p l[i]&&(l.drop (i+1)).all p):=by
 rw [List.drop_eq_getElem_cons h,List.all_cons]
theorem kinds_place (s:Sc):∀(l:List Kd) (i j:Nat) (h:j<l.length),kindsFrom s i l=true→s.place l[j].name=((i+j:Nat):Int)
 |[],_,_,h,_=>by simp at h
 |x::l,i,j,h,hk=>by
  simp only [kindsFrom,Bool.and_eq_true,decide_eq_true_eq] at hk
  match j,h with
  |0,_=>simpa using hk.1.1
  |j+1,h=>
   have:=kinds_place s l (i+1) j (by simpa using h) hk.2;simp only [List.getElem_cons_succ];rw [this];congr 1;omega
theorem ok_place {s:Sc}(h:s.ok=true){j:Nat}(hj:j<s.kinds.length):s.place s.kinds[j].name=(j:Int):=by
 simp only [Sc.ok,Bool.and_eq_true] at h;have:=kinds_place s s.kinds 0 j hj h.1;simpa using this
theorem ok_find {s:Sc}(h:s.ok=true){k:Kd}(hk:k∈s.kinds):s.find k.name=(k,true):=by
 obtain ⟨j,hj,rfl⟩:=List.getElem_of_mem hk;have hp:=ok_place h hj;unfold Sc.find;rw [if_neg (by omega),hp];simp [hj]
theorem ok_name_inj {s:Sc}(h:s.ok=true){k m:Kd}(hk:k∈s.kinds)(hm:m∈s.kinds)(e:k.name=m.name):k=m:=by
 have h1:=ok_find h hk;have h2:=ok_find h hm;rw [e,h2] at h1;exact (congrArg Prod.fst h1).symm
theorem ok_names_nodup {s:Sc}(h:s.ok=true):(s.kinds.map (·.name)).Nodup:=by
 unfold List.Nodup;rw [List.pairwise_map];refine List.pairwise_iff_getElem.2 fun i j hi hj hij e=>?_;have h1:=ok_place h hi;have h2:=ok_place h hj;rw [e,h2] at h1;omega
theorem find_name {s:Sc}{name:ByteArray}{k:Kd}(h:s.find name=(k,true)):k.name=name∧k∈s.kinds:=by
 rcases find_cases s name with ⟨_,h2⟩|⟨_,k',h1,h2,h3⟩
 ·rw [h2] at h;simp at h
 ·rw [h1] at h;simp only [Prod.mk.injEq,and_true] at h;subst h;exact ⟨h2,h3⟩
structure AlikeS (a b:Sc):Prop where
 ok1:a.ok=true
 ok2:b.ok=true
 top:a.top=b.top
 len:a.kinds.length=b.kinds.length
 marks:a.marks=b.marks
 kinds:∀k∈a.kinds,∃m∈b.kinds,m.name=k.name∧m.attrs=k.attrs∧∀w,k.content.L w↔m.content.L w
theorem sameK_iff {b:Sc}(hb:b.ok=true)(k:Kd):b.sameK k=true↔∃m∈b.kinds,m.name=k.name∧m.attrs=k.attrs∧∀w,k.content.L w↔m.content.L w:=by
 unfold Sc.sameK;constructor
 ·intro h;simp only [Bool.and_eq_true,decide_eq_true_eq] at h;obtain ⟨⟨h1,h2⟩,h3⟩:=h;obtain ⟨h4,h5⟩:=find_name (k:=(b.find k.name).1) (s:=b) (name:=k.name) (by rw [←h1]);exact ⟨_,h5,h4,h2.symm,same_iff.1 h3⟩
 ·rintro ⟨m,hm,h1,h2,h3⟩
  have:=ok_find hb hm;rw [h1] at this;rw [this];simp only [Bool.and_eq_true,decide_eq_true_eq,Bool.true_and];exact ⟨h2.symm,same_iff.2 h3⟩
theorem same_alike (a b:Sc):a.same b=true↔AlikeS a b:=by
 unfold Sc.same;simp only [Bool.and_eq_true,decide_eq_true_eq,List.all_eq_true];constructor
 ·rintro ⟨h1,h2,h3,h4,h5,h6⟩
  exact ⟨h1,h2,h3,by omega,h5,fun k hk=>(sameK_iff h2 k).1 (h6 k hk)⟩
 ·intro h;exact ⟨h.ok1,h.ok2,h.top,by have:=h.len;omega,h.marks,fun k hk=>(sameK_iff h.ok2 k).2 (h.kinds k hk)⟩
theorem AlikeS.symm {a b:Sc}(h:AlikeS a b):AlikeS b a:=by
 refine ⟨h.ok2,h.ok1,h.top.symm,h.len.symm,h.marks.symm,fun m hm=>?_⟩;have hex:m.name∈a.kinds.map (·.name):=Classical.byContradiction fun hn=>by
  have:=nodup_sub_len (m.name::a.kinds.map (·.name)) (b.kinds.map (·.name)) (List.nodup_cons.2 ⟨hn,ok_names_nodup h.ok1⟩) fun x hx=>by
   rcases List.mem_cons.1 hx with rfl|hx
   ·exact List.mem_map.2 ⟨m,hm,rfl⟩
   ·obtain ⟨k,hk,rfl⟩:=List.mem_map.1 hx;obtain ⟨m',hm',e,_⟩:=h.kinds k hk;exact List.mem_map.2 ⟨m',hm',e⟩
  have hl:=h.len;simp only [List.length_cons,List.length_map] at this;omega
 obtain ⟨k,hk,e⟩:=List.mem_map.1 hex;obtain ⟨m',hm',e1,e2,e3⟩:=h.kinds k hk;obtain rfl:m'=m:=ok_name_inj h.ok2 hm' hm (e1.trans e);exact ⟨k,hk,e,e2.symm,fun w=>(e3 w).symm⟩
noncomputable def dig32 (id:Nat):Code:=match Tryz.f35.body with
 |some c=>(dig 200 id c).getD .ret
 |none=>.ret
theorem tame_fit {k:Kd}(hf:k.fit)(hr:k.content.right=true):Tame k.content:=right_tame hr (by have:=hf.2.2.1;omega)
set_option maxRecDepth 20000 in
set_option maxHeartbeats 4000000 in
theorem h32k {l:List Kd}{b:Sc}{k:Kd}(hfit:k.fit)(hrt:k.content.right=true)(hob:b.ok=true)(hb:b.fit)(n i:Int){va:AV}{ops:Array Oper}{kk:List Item}{C:Ctx}(hC:Rd C Tryz.prog tab10 T8 92 [.tmp 4] va (keyed 0 []))(hva:b.sameK k=false→va=vB false)
 (hk:b.sameK k=true→Go.Abs.Go C (.top (.code (.region 13 ops false)::kk) ⟨[(3,.ptr (.loc 3) 0),(52,.pv (kds l)),(53,vI n),(54,vI i)],[(.loc 3,some (.box 25 b.cells))]⟩)) :
 Go.Abs.Go C (.top (.code (dig32 6) :: .inBlock 1 :: .code (.region 13 ops false)::kk) ⟨[(3,.ptr (.loc 3) 0),(6,.ptr (.loc 6) 0),(52,.pv (kds l)),(53,vI n),(54,vI i)],[(.loc 3,some (.box 25 b.cells)),(.loc 6,some (.box 66 k.cells))]⟩):=by
 have cf:=g21 tab10 b k.name;have of1:=c17 hfit.2.1 (by have:=hfit.2.2.1;omega) hrt;have ht:=tame_fit hfit hrt;have hsk:b.sameK k=((b.find k.name).2&&decide (k.attrs=(b.find k.name).1.attrs)&&sameB k.content (b.find k.name).1.content):=rfl;show Go.Abs.Go C (.top (.code (.seq _ _)::_) _);refine hC.til [13] [] 60 ?_;simp [Kd.cells,E.cells,Sc.cells];refine hC.call [] cf (by simp [Sc.av,Sc.cells,Kd.av,Kd.cells,E.cells]) ?_;rcases find_cases b k.name with ⟨_,h2⟩|⟨_,m,h1,h2,h3⟩
 ·rw [h2] at hsk ⊢;have:=hva hsk;subst this;refine hC.til [13] [] 60 ?_;simp [Kd.av,Kd.cells,E.cells,Sc.cells]
 ·rw [h1] at hsk ⊢;simp only [Bool.true_and] at hsk;have mfit:=hb.1 m h3;have mrt:=ok_content hob h3;have mt:=tame_fit mfit mrt;have of2:=c17 mfit.2.1 (by have:=mfit.2.2.1;omega) mrt;have sb:=c25 ht mt;generalize sameB k.content m.content=sb1 at sb hsk;generalize k.content.dfa=x at of1 sb;generalize m.content.dfa=y at of2 sb;refine hC.til [13] [] 60 ?_;simp [Kd.av,Kd.cells,E.cells,Sc.cells];refine hC.call [] (h64 tab10 k.attrs m.attrs) (by simp) ?_;cases he:decide (k.attrs=m.attrs) with
  |false=>
   rw [he,Bool.false_and] at hsk;have:=hva hsk;subst this;refine hC.til [13] [] 60 ?_;simp [Kd.cells,E.cells]
  |true=>
   rw [he,Bool.true_and] at hsk;refine hC.til [13] [] 60 ?_;simp [Kd.cells,E.cells];refine hC.call [] of1 (by simp [E.av,E.cells,Au.av,Au.cells]) ?_;refine hC.til [13] [] 60 ?_;simp [Kd.cells,E.cells,Au.av,Au.cells];refine hC.call [] of2 (by simp [E.av,E.cells,Au.av,Au.cells]) ?_;refine hC.til [13] [] 60 ?_;simp [Kd.cells,E.cells,Au.av,Au.cells];refine hC.call [] sb (by simp [Au.av,Au.cells]) ?_;cases sb1 with
   |false=>
    have:=hva hsk;subst this;refine hC.til [13] [] 60 ?_;simp [Kd.cells,E.cells,Au.cells]
   |true=>
    refine hC.til [13] [] 60 ?_;simp [Kd.cells,E.cells,Au.cells];exact go_to [] (hk hsk) (by simp [Sc.cells])
set_option maxRecDepth 20000 in
set_option maxHeartbeats 4000000 in
theorem h32 (a b:Sc)(ha:a.fit)(hb:b.fit)(hka:a.kinds.length≤1000000):Fun Tryz.prog tab10 35 [a.av,b.av] [] (vB (a.same b)) []:=by
 have r1:=g23 tab10 a ha;have r2:=g23 tab10 b hb;have q:=h63 tab10 a.marks b.marks;refine fun_of (T:=T8) (n:=92) (rs:=[.tmp 4]) Tryz.func35 (by kernel_rfl) rfl rfl rfl tok8 mixed (by simp) fun C hC=>?_;refine hC.go [] 60 ?_;simp [Sc.av,Sc.cells];refine hC.drawn (by kernel_rfl) (by simp [Sc.cells]) ?_;refine hC.go [] 60 ?_;simp [Sc.av,Sc.cells];refine hC.call [] r1 (by simp [Sc.av,Sc.cells]) ?_;cases hoa:a.ok with
 |false=>
  have hs:a.same b=false:=by simp [Sc.same,hoa]
  rw [hs] at hC;refine hC.go [] 60 ?_;simp [Sc.cells]
 |true=>
  refine hC.go [] 60 ?_;simp [Sc.av,Sc.cells];refine hC.call [] r2 (by simp [Sc.av,Sc.cells]) ?_;cases hob:b.ok with
  |false=>
   have hs:a.same b=false:=(by simp [Sc.same,hob]);rw [hs] at hC;refine hC.go [] 60 ?_;simp [Sc.cells]
  |true=>
   have ka:=(Sc.ok_kinds hoa).1;have kb:=(Sc.ok_kinds hob).1;have hta:a.top=a.kinds[0].name:=(by simp [Sc.top,ka]);have htb:b.top=b.kinds[0].name:=(by simp [Sc.top,kb]);by_cases hn:a.kinds[0].name=b.kinds[0].name
   ·by_cases hl:(a.kinds.length:Int)=b.kinds.length
    ·have hln:a.kinds.length=b.kinds.length:=(by omega);have hs1:a.same b=(decide (a.marks=b.marks)&&a.kinds.all b.sameK):=by
      simp only [Sc.same,hoa,hob,hta,htb,hn,hl,Bool.true_and,decide_true]
     refine hC.go [] 60 ?_;simp [Sc.cells,ka,kb,Kd.pv_eq,E.pv_eq,hn,hl,hln];refine hC.call [] q (by simp) ?_;by_cases hm:a.marks=b.marks
     ·have hmd:decide (a.marks=b.marks)=true:=decide_eq_true hm;rw [hmd,Bool.true_and] at hs1;refine hC.go [] 60 ?_;simp [Sc.cells,hm];refine go_loop (ι:={i:Nat // i≤a.kinds.length∧a.same b=(a.kinds.drop i).all b.sameK}) (fun x=>⟨[(3,.ptr (.loc 3) 0),(52,.pv (kds a.kinds)),(53,vI a.kinds.length),(54,vI x.1)],[(.loc 3,some (.box 25 b.cells))]⟩) (fun x=>a.kinds.length-x.1) ⟨0,by simpa using hs1⟩ [] (by simp [Sc.cells,hln]) fun x ih=>?_;obtain ⟨i,hi,hx⟩:=x;simp only at hi hx ih;by_cases hlt:i<a.kinds.length
      ·have hw:=wr64 ((i:Int)+1) (by omega);rw [all_drop _ hlt] at hx;have hmem:a.kinds[i]∈a.kinds:=List.getElem_mem hlt;have hfit:=ha.1 _ hmem;have hrt:=ok_content hoa hmem;obtain ⟨k,hkk⟩:∃k,a.kinds[i]=k:=⟨_,rfl⟩;rw [hkk] at hx hmem hfit hrt;refine hC.til [1006] [] 60 ?_;simp [hlt,hkk,Kd.pv_eq,E.pv_eq,Sc.cells];refine go_to [] (h32k (l:=a.kinds) (k:=k) hfit hrt hob hb (a.kinds.length:Int) (i:Int) hC (fun q=>by rw [hx,q,Bool.false_and]) fun q=>?_) (by simp [Sc.cells,Kd.cells,E.cells]);refine hC.go [] 60 ?_;simp;exact go_to [] (ih ⟨i+1,hlt,by rw [hx,q,Bool.true_and]⟩ (by simp;omega)) (by simp [hw,Sc.cells])
      ·rw [List.drop_eq_nil_of_le (by omega)] at hx;rw [hx] at hC;refine hC.go [] 60 ?_;simp [hlt]
     ·have hmd:decide (a.marks=b.marks)=false:=decide_eq_false hm;rw [hmd,Bool.false_and] at hs1;rw [hs1] at hC;refine hC.go [] 60 ?_;simp [Sc.cells,hm]
    ·have hs1:a.same b=false:=(by simp [Sc.same,hl]);rw [hs1] at hC;have hln:¬a.kinds.length=b.kinds.length:=(by omega);refine hC.go [] 60 ?_;simp [Sc.cells,ka,kb,Kd.pv_eq,E.pv_eq,hn,hl,hln]
   ·have hs1:a.same b=false:=(by simp [Sc.same,hta,htb,hn]);rw [hs1] at hC;refine hC.go [] 60 ?_;simp [Sc.cells,ka,kb,Kd.pv_eq,E.pv_eq,hn]
theorem c32 {a b:Sc}(ha:a.fit)(hb:b.fit)(hka:a.kinds.length≤1000000):Fun Tryz.prog tab2 35 [a.av,b.av] [] (vB (a.same b)) []:=up10 (h32 a b ha hb hka)
end Go.Proofs.D
