/-
  NUMBERS AS THEY ARE WRITTEN; rows of numbers, as they are told apart.
-/
import Derived.Test.YtkjfaanenmhlbaaGreatDoorZ5
import Derived.Test.YtkjfaanenmhlbaaGreatDoorG12
import Derived.Test.YtkjfaanenmhlbaaGreatDoorG0
import Derived.Test.YtkjfaanenmhlbaaGreatDoorAbsP
import Derived.Test.YtkjfaanenmhlbaaGreatDoorShelfS
import Derived.Test.YtkjfaanenmhlbaaGreatDoorH15
import Derived.Test.YtkjfaanenmhlbaaGreatDoorAbsMB
import Derived.Test.YtkjfaanenmhlbaaGreatDoorL2
import Derived.Test.YtkjfaanenmhlbaaGreatDoorL6
import Derived.DeepKeys4
set_option linter.unusedVariables false
set_option linter.unusedSimpArgs false
namespace Go.Proofs.D
open Go Go.Abs Go.RowKit
theorem dec_range (u:Nat):∀c∈Lib.decDigits u,48≤c.toNat∧c.toNat≤57:=by
 induction u using Nat.strongRecOn with
 |_ u ih=>
  rw [Lib.decDigits];split
  ·intro c hc;simp at hc;subst hc;simp;omega
  ·intro c hc;rcases List.mem_append.1 hc with hc|hc
   ·exact ih (u/10) (by omega) c hc
   ·simp at hc;subst hc;simp;omega
theorem dec_ne (u:Nat):Lib.decDigits u≠[]:=by
 rw [Lib.decDigits];split<;>simp
theorem dec_inj:∀(u v:Nat),Lib.decDigits u=Lib.decDigits v→u=v:=by
 intro u;induction u using Nat.strongRecOn with
 |_ u ih=>
  intro v h;have one:∀a b:Nat,a<10→b<10→UInt8.ofNat (48+a)=UInt8.ofNat (48+b)→a=b:=fun a b ha hb e=>by
   have:=congrArg UInt8.toNat e;simp at this;omega
  have hl:∀w:Nat,¬w<10→Lib.decDigits w=Lib.decDigits (w/10)++[UInt8.ofNat (48+w % 10)]:=fun w hw=>by rw [Lib.decDigits,dif_neg hw]
  have hs:∀w:Nat,w<10→Lib.decDigits w = [UInt8.ofNat (48+w)]:=fun w hw=>by rw [Lib.decDigits,dif_pos hw]
  by_cases hu:u<10
  ·by_cases hv:v<10
   ·rw [hs u hu,hs v hv] at h;exact one u v hu hv (List.cons.inj h).1
   ·rw [hs u hu,hl v hv] at h;have h1:=congrArg List.length h;have h2:=List.length_pos_iff.2 (dec_ne (v/10));rw [List.length_append] at h1;simp only [List.length_cons,List.length_nil] at h1;omega
  ·by_cases hv:v<10
   ·rw [hl u hu,hs v hv] at h;have h1:=congrArg List.length h;have h2:=List.length_pos_iff.2 (dec_ne (u/10));rw [List.length_append] at h1;simp only [List.length_cons,List.length_nil] at h1;omega
   ·rw [hl u hu,hl v hv] at h;obtain ⟨h1,h2⟩:=List.append_inj' h rfl;have e1:=ih (u/10) (by omega) (v/10) h1;have e2:=one (u % 10) (v % 10) (by omega) (by omega) (List.cons.inj h2).1;omega
theorem itoa_inj {a b:Int}(h:Lib.itoa a=Lib.itoa b):a=b:=by
 unfold Lib.itoa at h;have hm:∀u v:Nat,¬(45::Lib.decDigits u=Lib.decDigits v):=fun u v e=>by
  have:=dec_range v 45 (by rw [←e];simp);simp at this
 split at h<;>split at h
 ·have:=dec_inj _ _ (List.cons.inj h).2;omega
 ·exact absurd h (hm _ _)
 ·exact absurd h.symm (hm _ _)
 ·have:=dec_inj _ _ h;omega
def itoaB (n:Int):ByteArray:=⟨(Lib.itoa n).toArray⟩
theorem itoaB_list (n:Int):(itoaB n).data.toList=Lib.itoa n:=by simp [itoaB]
theorem itoaB_inj {a b:Int}(h:itoaB a=itoaB b):a=b:=itoa_inj (by rw [←itoaB_list,h,itoaB_list])
theorem itoaB_sep (n:Int):(44:UInt8)∉(itoaB n).data.toList:=by
 rw [itoaB_list];unfold Lib.itoa;intro h;split at h
 ·rcases List.mem_cons.1 h with h|h
  ·cases h
  ·have:=dec_range _ _ h;simp at this
 ·have:=dec_range _ _ h;simp at this
theorem decimal_len (u:Nat):∀k,u<10 ^ (k+1)→(Lib.decDigits u).length≤k+1:=by
 induction u using Nat.strongRecOn with
 |_ u ih=>
  intro k hk;rw [Lib.decDigits];split
  ·simp
  ·cases k with
   |zero=>omega
   |succ k=>
    have:=ih (u/10) (by omega) k (by rw [Nat.pow_succ] at hk;omega);simp;omega
theorem itoaB_size {n:Int}(h0 : -1000000000≤n)(h1:n≤1000000000):(itoaB n).size≤20:=by
 have e:(itoaB n).size=(Lib.itoa n).length:=by rw [←itoaB_list];exact (Array.length_toList).symm
 rw [e];unfold Lib.itoa;split
 ·have:=decimal_len n.natAbs 9 (by omega);simp;omega
 ·have:=decimal_len n.toNat 9 (by omega);omega
def signB (l:List Int):ByteArray:=joinB (l.map itoaB) ⟨#[44]⟩
theorem signB_inj {l m:List Int}(hl:l≠[])(hm:m≠[])(h:signB l=signB m):l=m:=by
 have:=joinB_inj 44 (l:=l.map itoaB) (m:=m.map itoaB) (fun x hx=>by obtain ⟨n,_,rfl⟩:=List.mem_map.1 hx;exact itoaB_sep n) (fun x hx=>by obtain ⟨n,_,rfl⟩:=List.mem_map.1 hx;exact itoaB_sep n) (by simpa using hl) (by simpa using hm) h;have key:∀a b:List Int,a.map itoaB=b.map itoaB→a=b:=by
  intro a;induction a with
  |nil=>intro b h;cases b with
   |nil=>rfl
   |cons y b=>simp at h
  |cons x a ih=>
   intro b h;cases b with
   |nil=>simp at h
   |cons y b=>
    simp only [List.map_cons,List.cons.injEq] at h;rw [itoaB_inj h.1,ih b h.2]
 exact key l m this
theorem signB_one (n:Int):signB [n]=itoaB n:=ext_list (by simp [signB,joinB,Lib.join_one])
theorem signB_snoc (x:Int)(l:List Int)(n:Int):signB (x::l++[n])=signB (x::l)++(⟨#[44]⟩++itoaB n):=by
 refine ext_list ?_;rw [app_list,app_list];simp [signB,joinB,Lib.join_cons,Lib.joinTail]
theorem signB_size {l:List Int}(h:∀n∈l,-1000000000≤n∧n≤1000000000):(signB l).size≤21*l.length:=by
 refine Nat.le_trans (join_size _ _) ?_;have e44:(⟨#[44]⟩:ByteArray).size=1:=rfl;simp only [List.map_map,Function.comp_def,e44];induction l with
 |nil=>simp
 |cons x l ih=>
  have h1:=ih fun n hn=>h n (by simp [hn]);have h2:=itoaB_size (h x (by simp)).1 (h x (by simp)).2;simp only [List.map_cons,List.sum_cons,List.length_cons];omega
def tab10:Granted:=⟨fun w F=>(∃k cs t p,Tryz.prog.globalNamed "internal/strconv.uint64pow10" = some k∧F k∧w.heap[k]?=some (.cells cs t p)∧cs=(Lib.pow10Tab.map fun z=>Value.int .u64 z).toArray),by
 rintro w w' F F' ⟨k,cs,t,p,h1,h2,h3,h4⟩ hw hF
 exact ⟨k,cs,t,p,h1,hF _ h2,(hw _ h2).trans h3,h4⟩⟩
theorem tab10_is {w:World}{F:Nat→Prop}(h:tab10.p w F):Lib.TabIs Tryz.prog w "internal/strconv.uint64pow10" .u64 Lib.pow10Tab:=by
 obtain ⟨k,cs,t,p,h1,h2,h3,h4⟩:=h;simp only [Lib.TabIs,World.var?,h1,Option.bind_some,h3,h4]
theorem below_grow (w:World)(q:Nat)(os:Array Obj):Below w.heap.size w (Go.Sort.grow (w.drewN q) os):=
 ⟨rfl,rfl,rfl,by simp [Go.Sort.grow],fun i hi=>by
   show ((w.drewN q).heap++os)[i]?=_;rw [Array.getElem?_append_left (by show i<w.heap.size;omega)];rfl⟩
theorem h131 (n:Int)(h0 : -9223372036854775808≤n)(h1:n≤9223372036854775807):Fun Tryz.prog tab10 229 [vI n] [] (vS (itoaB n)) []:=by
 refine fun_shelf ⟨_,Tryz.func229,by kernel_rfl,rfl⟩ fun w F cargs hg hF hlen hr=>?_
 match cargs,hlen with
 |[c0],_=>
  obtain rfl:=bool_of (hr 0 _ c0 rfl rfl);exact (Tryz.strconv_Itoa n h0 h1 w (tab10_is hg)).mono fun e w' ⟨he,k,os,hw⟩=>⟨_,he,.pv _ _ (.val _ rfl),by rw [hw];exact below_grow w k os⟩
theorem h132 (Gl:Granted)(K:List Int)(t:Int)(ht:t<0∨∃n:Nat,t=n∧n<K.length):Fun Tryz.prog Gl 230 [.pv (ints K),vI t] [] (vI (if t<0 then -1 else K.getD t.toNat 0)) []:=by
 refine fun_of (T:=T5) (n:=11) (rs:=[.tmp 4]) Tryz.func230 (by kernel_rfl) rfl rfl rfl tok5 mixed (by simp) fun C hC=>?_;by_cases h:t<0
 ·refine hC.go [] 60 ?_;simp [h]
 ·obtain ⟨n,rfl,hn⟩:=ht.resolve_left h;refine hC.go [] 60 ?_;simp [h,hn,List.getD]
open Go.Shelf
theorem grow_nil {P:Program}{ρ:Ren}(L:Lays8.n4 P ρ){T:TT}(hT:TOk P T){inf:TI}(hi:lkT T (ρ.t 25)=some inf)(hb:inf.bytes≤1000)(Gl:Granted)(g:Nat)(hg:ρ.f 4=g)(e:Nat)(he:ρ.t 25=e)(hfn:∃fng,P.funcs[g]?=some fng∧(fng.name == "runtime.NumGoroutine")=false∧fng.body.isNone=false)(k n:Nat)(hn:n≤100000000000) :
 FunO P Gl g [.pv (.nilS k),vI n] [] (.own (.out 0)) [] [.row e inf.size []]:=by
 subst hg he;have ok:=lkT_ok hT hi;obtain ⟨i0,z,h1,h2,h3,h4,h5,h6⟩:=ok.info;have hz:z.cells.size=inf.size:=by have:=congrArg List.length h5;simp at this;omega
 refine funO_row hfn (by simp) fun w F cargs hF hlen hr=>?_
 match cargs,hlen with
 |[c0,c1],_=>
  obtain rfl:=nil_of (hr 0 _ c0 rfl rfl);obtain rfl:=bool_of (hr 1 _ c1 rfl rfl);by_cases h0:n=0
  ·subst h0;refine (Any8.slices_Grow_room L none 0 0 0 w (by omega) (by omega) (by omega) (by omega)).mono ?_
   rintro e' w' ⟨rfl,rfl⟩
   exact ⟨_,[],rfl,World.ownsRow_nil _ _ _ _,by simp,by simp,Below.refl _ _⟩
  ·refine (Any8.slices_Grow_grow L i0 z h1 h4 (by rw [h2];exact ok.one) none 0 0 n [] w (by omega) (by omega) ?_ (by omega) (by simp) (fun _=>rfl) (by simp)).mono ?_
   ·rw [h3];have:(0+n)*inf.bytes≤(0+n)*1000:=Nat.mul_le_mul_left _ hb;omega
   ·rintro e' w' ⟨rfl,rfl⟩
    have hge:=grownCap_ge w (0+n) 0 (ρ.t 25);have hle:=grownCap_le_maxLen w (0+n) 0 (ρ.t 25) (by unfold maxLen;omega);have hle2:=hle;simp only [Nat.zero_add] at hge hle2;refine ⟨_,[],rfl,?_,by simp,by simp,((Below.refl _ w).drew).alloc (by simp) _⟩;refine World.ownsRow_made w.drew _ _ (by simp) hle ?_;simp only [Array.size_append,size_zeroCells,hz,List.size_toArray,List.length_nil,Nat.zero_add];rw [←Nat.add_mul];congr 1;omega
theorem h229 (Gl:Granted)(k n:Nat)(hn:n≤100000000000):FunO Tryz.prog Gl 311 [.pv (.nilS k),vI n] [] (.own (.out 0)) [] [.row 63 3 []]:=
 grow_nil Tryz.grow229 (T:=T5) tok5 rfl (by decide) Gl 311 rfl 63 rfl ⟨_,Tryz.func311,by kernel_rfl,rfl⟩ k n hn
abbrev rB (r:Rest):Blk:=.row 63 3 (r.map E.pv)
set_option maxRecDepth 20000 in
theorem h201 (Gl:Granted)(r:Rest)(hr:r.length≤1000000):FunO Tryz.prog Gl 290 [rV r] [] (.own (.out 0)) [] [rB r]:=by
 refine funO_of (T:=T5) (n:=8) (rs:=[.tmp 2]) Tryz.func290 (by kernel_rfl) rfl rfl rfl tok5 mixed (by simp) fun C hC=>?_;refine hC.go [5] 60 ?_;simp;refine hC.isNil Tryz.underlying307 rfl (by simp;exact ⟨rfl,rfl⟩) fun b hb=>?_;cases b with
 |true=>
  have hr0:r = []:=Classical.byContradiction fun h=>absurd (hb (by simpa using h)) (by decide);subst hr0;refine hC.til [2] [5] 60 ?_;simp;refine hC.go [5] 3 ?_;simp;refine go_to (M:=⟨[(2,.own (.out 0))],[(.out 0,some (rB []))]⟩) [(.out 0,.nil)] ?_ (by simp);refine hC.go [] 60 ?_;simp
 |false=>
  refine hC.til [3] [5] 60 ?_;simp;refine hC.go [5] 6 ?_;simp;refine ⟨by omega,?_⟩;refine go_to (M:=⟨[(2,.own (.out 0))],[(.out 0,some (rB r))]⟩) [(.out 0,.nm (.loc 7))] ?_ (by simp);refine hC.go [] 60 ?_;simp
abbrev restsV (l:List Rest):PV:=.ro 1 (l.map fun r=>[rP r])
def flatN (l:List Rest)(i:Nat):Nat:=(l.take i).flatten.length
theorem flat_take {l:List Rest}{i:Nat}(h:i<l.length):(l.take (i+1)).flatten=(l.take i).flatten++l[i]:=by
 rw [List.take_add_one,List.getElem?_eq_getElem h];simp only [Option.toList_some,List.flatten_append,List.flatten_cons,List.flatten_nil,List.append_nil]
theorem flatN_succ {l:List Rest}{i:Nat}(h:i<l.length):flatN l (i+1)=flatN l i+l[i].length:=by
 unfold flatN;rw [flat_take h,List.length_append]
theorem flatN_le (l:List Rest)(i:Nat):flatN l i≤l.flatten.length:=by
 have:=congrArg List.length (congrArg List.flatten (List.take_append_drop i l));rw [List.flatten_append,List.length_append] at this;unfold flatN;omega
set_option maxRecDepth 20000 in
theorem h200 (Gl:Granted)(l:List Rest)(hl:l.length≤1000000)(hs:l.flatten.length≤1000000):Fun Tryz.prog Gl 289 [.pv (restsV l)] [] (rV l.flatten) []:=by
 refine fun_of (T:=T5) (n:=36) (rs:=[.tmp 2]) Tryz.func289 (by kernel_rfl) rfl rfl rfl tok5 mixed (by simp) fun C hC=>?_;refine hC.go [] 60 ?_;simp;refine go_loop (ι:={i:Nat // i≤l.length}) (fun i=>⟨[(0,.pv (restsV l)),(3,vI (flatN l i.1)),(9,.pv (restsV l)),(10,vI l.length),(11,vI i.1)],[]⟩) (fun i=>l.length-i.1) ⟨0,by simp⟩ [] (by simp [flatN]) fun x ih=>?_;obtain ⟨i,hi⟩:=x;simp only at hi ih;have hfl:=flatN_le l i;by_cases hlt:i<l.length
 ·have hw:=wr64 ((i:Int)+1) (by omega);have hft:=flatN_succ hlt;have hfl1:=flatN_le l (i+1);have hw2:=wr64 ((flatN l i:Int)+(l[i].length:Int)) (by omega);have hneg:¬((flatN l i:Int)+(l[i].length:Int))<0:=by omega
  have hlen:(flatN l (i+1):Int)=(flatN l i:Int)+(l[i].length:Int):=by omega
  refine hC.go [] 60 ?_;simp [hlt,hw2,hneg];exact go_to [] (ih ⟨i+1,hlt⟩ (by simp;omega)) (by simp [hw,hlen])
 ·have e0:flatN l i=l.flatten.length:=by unfold flatN;rw [List.take_of_length_le (by omega)]
  rw [e0];generalize hN:l.flatten.length=N at hs;refine hC.go [] 60 ?_;simp [hlt];refine hC.callO [] [.can 0] (h229 Gl 0 N (by omega)) (by simp) ?_;refine hC.go [] 60 ?_;simp;refine go_loop (ι:={i:Nat // i≤l.length}) (fun i=>⟨[(0,.pv (restsV l)),(6,.own (.can 0)),(25,.pv (restsV l)),(26,vI l.length),(27,vI i.1)],[(.can 0,some (rB (l.take i.1).flatten))]⟩) (fun i=>l.length-i.1) ⟨0,by simp⟩ [] (by simp) fun x ih=>?_;obtain ⟨i,hi⟩:=x;simp only at hi ih;have hfl:=flatN_le l i;obtain ⟨m,hm⟩:∃m,(l.take i).flatten=m:=⟨_,rfl⟩;have hml:m.length=flatN l i:=by rw [←hm];rfl
  dsimp only;rw [hm];by_cases hlt:i<l.length
  ·have hw:=wr64 ((i:Int)+1) (by omega);have hft:=flat_take hlt;rw [hm] at hft;have hfn:=flatN_succ hlt;have hfl1:=flatN_le l (i+1);refine hC.go [] 60 ?_;simp [hlt];refine ⟨by omega,?_⟩;exact go_to [(.can 0,.nm (.loc 33))] (ih ⟨i+1,hlt⟩ (by simp;omega)) (by simp [hw,hft])
  ·have e1:m=l.flatten:=by rw [←hm,List.take_of_length_le (by omega)]
   rw [←e1] at hC;refine hC.go [] 60 ?_;simp [hlt]
end Go.Proofs.D
namespace Go.Proofs.D
open Go Go.Abs
theorem beh_len (a:ByteArray)(e:E):(e.beh a).length≤e.leaves:=by
 have hk:∀k∈e.kids,(k.beh a).length≤k.leaves:=fun k hk=>beh_len a k;have hA:∀l:List E,(∀k∈l,(k.beh a).length≤k.leaves)→(E.beh.altB a l).length≤E.leaves.go l:=by
  intro l;induction l with
  |nil=>intro _;simp [E.beh.altB,E.leaves.go]
  |cons k l ih=>intro h;have:=h k (by simp);have:=ih fun x hx=>h x (by simp [hx]);simp only [E.beh.altB,E.leaves.go,List.length_append];omega
 have hS:∀l:List E,(∀k∈l,(k.beh a).length≤k.leaves)→(E.beh.seqB a l).length≤E.leaves.go l:=by
  intro l;induction l with
  |nil=>intro _;simp [E.beh.seqB,E.leaves.go]
  |cons k l ih=>
   intro h;have h1:=h k (by simp);have h2:=ih fun x hx=>h x (by simp [hx]);simp only [E.beh.seqB,E.leaves.go,List.length_append,List.length_map];split
   ·omega
   ·simp;omega
 have hH:∀l:List E,(∀k∈l,(k.beh a).length≤k.leaves)→(E.beh.headB a l).length≤E.leaves.go l:=by
  intro l h;cases l with
  |nil=>simp [E.beh.headB,E.leaves.go]
  |cons k l=>have:=h k (by simp);simp only [E.beh.headB,E.leaves.go];omega
 rw [beh_eq,leaves_eq];by_cases h1:e.op=110
 ·rw [if_pos h1,if_pos h1];split<;>simp
 ·rw [if_neg h1,if_neg h1];split
  ·exact hA _ hk
  ·split
   ·exact hS _ hk
   ·split
    ·exact hH _ hk
    ·rw [List.length_map];exact hH _ hk
termination_by SizeOf.sizeOf e
decreasing_by exact E.kids_lt hk
structure Part (e:E):Prop where
 kids:∀k∈e.kids,Tame k
 len:e.kids.length≤24
 ops:e.op=110∨e.op=97∨e.op=115∨((e.op=63∨e.op=42∨e.op=43)∧∃k,e.kids = [k])
theorem tame_part {e:E}(h:Tame e):Part e:=by
 have hc:=h.2;refine ⟨fun k hk=>⟨ok_kid h.1 hk,by have:=cnt_kid hk;omega⟩,by have:=kids_le e;omega,?_⟩;rcases E.ok_ops h.1 with ⟨g,_⟩|⟨g,_⟩|⟨g,_⟩|⟨g,_,k,hk,_⟩
 ·exact .inl g
 ·exact .inr (.inr (.inl g))
 ·exact .inr (.inl g)
 ·exact .inr (.inr (.inr ⟨by omega,k,hk⟩))
theorem tame_leaves {e:E}(h:Tame e):e.leaves≤24:=by have:=(leaves_le e).1;have:=h.2;omega
theorem leaves_sum {l:List E}(h:∀k∈l,Tame k):E.leaves.go l≤24*l.length:=by
 induction l with
 |nil=>simp [E.leaves.go]
 |cons k l ih=>
  have:=tame_leaves (h k (by simp));have:=ih fun x hx=>h x (by simp [hx]);simp only [E.leaves.go,List.length_cons];omega
theorem beh_rest {e:E}(h:Tame e)(a:ByteArray):∀r∈e.beh a,TameR r:=fun r hr=>by
 obtain ⟨h1,h2⟩:=pdy_ok a e h.1 r (beh_sub a e r hr);have:=h.2;exact ⟨by omega,fun k hk=>⟨(h2 k hk).1,by have:=(h2 k hk).2;omega⟩⟩
theorem tame_has {k:E}(h:Tame k):k.has []=k.nul:=by
 have:=nul_iff k h.1;rw [E.has,tame_right h,Bool.true_and];cases hn:k.nul with
 |true=>simp [this.1 hn]
 |false=>simp;intro q;rw [this.2 q] at hn;cases hn
theorem h24nil (Gl:Granted){k:E}(h:Tame k)(s:Nat):Fun Tryz.prog Gl 30 [k.av,.pv (.nilS s)] [] (vB k.nul) []:=by
 rw [←tame_has h];exact fun_args (f20 Gl k (ok_small k h.1) [] (by decide)) rfl nil_row
abbrev restsB (l:List Rest):Blk:=.row 307 1 (l.map fun r=>[rP r])
theorem h200two (Gl:Granted)(r m:Rest)(h:r.length+m.length≤1000000):Fun Tryz.prog Gl 289 [.pv (restsV [r,m])] [] (rV (r++m)) []:=by
 have:=h200 Gl [r,m] (by simp) (by simp;omega);simpa using this
set_option maxRecDepth 20000 in
set_option maxHeartbeats 4000000 in
theorem h172 (Gl:Granted)(e:E)(he:Part e)(a:ByteArray):Fun Tryz.prog Gl 268 [e.av,vS a] [] (.pv (restsV (e.beh a))) []:=by
 have hrec:∀k∈e.kids,Fun Tryz.prog Gl 268 [k.av,vS a] [] (.pv (restsV (k.beh a))) []:=fun k hk=>h172 Gl k (tame_part (he.kids k hk)) a;have hb:=beh_eq a e;have hkl:=he.len;have hel:(e.beh a).length≤24*24:=by
  have h1:=beh_len a e;have h2:=leaves_sum he.kids;rw [leaves_eq] at h1;split at h1<;>omega
 refine fun_of (T:=T5) (n:=107) (rs:=[.tmp 4]) Tryz.func268 (by kernel_rfl) rfl rfl rfl tok5 mixed (by simp) fun C hC=>?_;refine hC.go [] 15 ?_;simp [E.av,E.cells];refine go_cut1 (ι:=Unit) (fun _=>⟨[(5,.own (.can 0))],[(.can 0,some (restsB (e.beh a)))]⟩) (fun _=>?_) (fun tail=>?_)
 ·refine hC.go [] 90 ?_;simp
 ·have tail:=tail ();by_cases h1:e.op=110
  ·rw [if_pos h1] at hb;by_cases h2:e.name=a
   ·rw [if_pos h2] at hb;refine hC.til [1031] [] 90 ?_;simp [h1,h2];refine go_blk (.loc 48) (.row 307 1 [[.ro 0 []]]) (.row 307 1 [[.ro 3 []]]) (by simp) (fun w F hd h=>hold_last (es:=[]) h) ?_;rw [hb] at tail;exact go_to [(.can 0,.nm (.loc 48))] tail (by simp)
   ·rw [if_neg h2] at hb;rw [hb] at tail;refine hC.til [1031] [] 90 ?_;simp [h1,h2];exact go_to [(.can 0,.nil)] tail (by simp)
  ·rw [if_neg h1] at hb;by_cases h2:e.op=97
   ·rw [if_pos h2] at hb;refine hC.til [1031] [] 90 ?_;simp [h1,h2];refine go_loop (ι:={x:Nat × List Rest // x.1≤e.kids.length∧x.2++E.beh.altB a (e.kids.drop x.1)=e.beh a}) (fun x=>⟨[(1,vS a),(5,.own (.can 0)),(52,rV e.kids),(53,vI e.kids.length),(54,vI x.1.1)],[(.can 0,some (restsB x.1.2))]⟩)
     (fun x=>e.kids.length-x.1.1) ⟨(0,[]),by simp,by simp [hb]⟩ [(.can 0,.nil)] (by simp) fun x ih=>?_
    obtain ⟨⟨i,out⟩,hi,ho⟩:=x;simp only at hi ho ih;have hol:=congrArg List.length ho;rw [List.length_append] at hol;by_cases hlt:i<e.kids.length
    ·have hw:=wr64 ((i:Int)+1) (by omega);rw [List.drop_eq_getElem_cons hlt,E.beh.altB,←List.append_assoc] at ho;refine hC.til [1031] [] 90 ?_;simp [hlt,E.pv_eq e.kids[i]];refine hC.call [] (hrec e.kids[i] (by simp)) (by simp [E.av,E.cells]) ?_;have hkb:=Nat.le_trans (beh_len a e.kids[i]) (tame_leaves (he.kids e.kids[i] (by simp)));refine hC.til [1031] [] 90 ?_;simp [hlt];refine ⟨by omega,?_⟩;exact go_to [(.can 0,.nm (.loc 62))] (ih ⟨(i+1,out++e.kids[i].beh a),hlt,ho⟩ (by simp;omega)) (by simp [hw])
    ·rw [List.drop_eq_nil_of_le (by omega),E.beh.altB,List.append_nil] at ho;subst ho;refine hC.til [1031] [] 90 ?_;simp [hlt];exact go_to [] tail (by simp)
   ·rw [if_neg h2] at hb;by_cases h3:e.op=115
    ·rw [if_pos h3] at hb;refine hC.til [1031] [] 90 ?_;simp [h1,h2,h3];refine go_loop (ι:={x:Nat × List Rest // x.1≤e.kids.length∧x.2++E.beh.seqB a (e.kids.drop x.1)=e.beh a}) (fun x=>⟨[(1,vS a),(2,.ptr (.loc 2) 0),(5,.own (.can 0)),(67,rV e.kids),(68,vI e.kids.length),(69,vI x.1.1)],[(.loc 2,some (.box 63 e.cells)),(.can 0,some (restsB x.1.2))]⟩)
      (fun x=>e.kids.length-x.1.1) ⟨(0,[]),by simp,by simp [hb]⟩ [(.can 0,.nil)] (by simp [E.cells,h3]) fun x ih=>?_
     obtain ⟨⟨i,out⟩,hi,ho⟩:=x;simp only at hi ho ih;by_cases hlt:i<e.kids.length
     ·have hw:=wr64 ((i:Int)+1) (by omega);rw [List.drop_eq_getElem_cons hlt,E.beh.seqB,←List.append_assoc] at ho;have hkt:=he.kids e.kids[i] (by simp);obtain ⟨rs,hrs⟩:∃rs,e.kids[i].beh a=rs:=⟨_,rfl⟩;have hcall:=hrec e.kids[i] (by simp);rw [hrs] at ho hcall;have hrt:∀r∈rs,TameR r:=(by rw [←hrs];exact beh_rest hkt a);have hol:=congrArg List.length ho;simp only [List.length_append,List.length_map] at hol;refine hC.til [1031] [] 90 ?_;simp [hlt,E.pv_eq e.kids[i],E.cells];refine hC.call [] hcall (by simp [E.av,E.cells]) ?_;refine hC.til [1031] [] 90 ?_;simp;refine go_loop (ι:={j:Nat × List Rest // j.1≤rs.length∧out++(rs.take j.1).map (·++e.kids.drop (i+1))=j.2}) (fun j=>⟨[(1,vS a),(2,.ptr (.loc 2) 0),(5,.own (.can 0)),(8,vI i),(9,.ptr (.loc 9) 0),(67,rV e.kids),(68,vI e.kids.length),(69,vI i),(76,.pv (restsV rs)),(77,vI rs.length),(78,vI j.1.1)],
       [(.loc 2,some (.box 63 e.cells)),(.loc 9,some (.box 63 e.kids[i].cells)),(.can 0,some (restsB j.1.2))]⟩)
       (fun j=>rs.length-j.1.1) ⟨(0,out),by simp⟩ [] (by simp [E.cells]) fun z ihj=>?_
      obtain ⟨⟨j,m⟩,hj,hm⟩:=z;simp only at hj hm ihj;by_cases hjl:j<rs.length
      ·have hwj:=wr64 ((j:Int)+1) (by omega);have hrj:=(hrt rs[j] (by simp)).1;have htk:rs.take (j+1)=rs.take j++[rs[j]]:=(by rw [List.take_add_one,List.getElem?_eq_getElem hjl];rfl);have hml:m.length≤24*24:=(by rw [←hm,List.length_append,List.length_map,List.length_take];omega);obtain ⟨d,hd⟩:∃d,e.kids.drop (i+1)=d:=⟨_,rfl⟩;have hdl:d.length≤24:=(by rw [←hd,List.length_drop];omega);have hstep:out++(rs.take (j+1)).map (·++d)=m++[rs[j]++d]:=(by rw [htk,List.map_append,←List.append_assoc,←hm,hd];rfl);have hw1:=wr64 ((i:Int)+1) (by omega);refine hC.til [1031] [] 90 ?_;have hkk:List.drop (i+1) (List.take e.kids.length (List.map E.pv e.kids))=d.map E.pv:=by rw [List.take_of_length_le (by simp),←List.map_drop,hd]
       simp [hjl,E.cells,hw1];rw [hkk];refine ⟨by omega,?_⟩;refine hC.call [] (h200two Gl rs[j] d (by omega)) (by simp) ?_;refine hC.til [1031] [] 90 ?_;simp;refine ⟨by omega,?_⟩;exact go_to [(.can 0,.nm (.loc 92))] (ihj ⟨(j+1,m++[rs[j]++d]),hjl,by rw [hd];exact hstep⟩ (by simp;omega)) (by simp [hwj,E.cells])
      ·have htk:rs.take j=rs:=List.take_of_length_le (by omega);rw [htk] at hm;rw [hm] at ho;refine hC.til [1031] [] 90 ?_;simp [hjl,E.cells];refine hC.call [] (h24nil Gl hkt 0) (by simp [E.av,E.cells]) ?_;cases hn:e.kids[i].nul with
       |true=>
        simp [hn] at ho;refine hC.til [1031] [] 90 ?_;simp;exact go_to [] (ih ⟨(i+1,m),hlt,by simpa using ho⟩ (by simp;omega)) (by simp [hw,E.cells])
       |false=>
        simp [hn] at ho;subst ho;refine hC.til [1031] [] 90 ?_;simp;exact go_to [] tail (by simp)
     ·rw [List.drop_eq_nil_of_le (by omega),E.beh.seqB,List.append_nil] at ho;subst ho;refine hC.til [1031] [] 90 ?_;simp [hlt];exact go_to [] tail (by simp)
    ·rw [if_neg h3] at hb;obtain ⟨k,hk⟩:∃k,e.kids = [k]:=by
      rcases he.ops with g|g|g|⟨_,g⟩
      ·exact absurd g h1
      ·exact absurd g h2
      ·exact absurd g h3
      ·exact g
     have hcall:=hrec k (by rw [hk];simp);have hkt:=he.kids k (by rw [hk];simp);by_cases h4:e.op=63
     ·rw [if_pos h4,hk,E.beh.headB] at hb;refine hC.til [1031] [] 90 ?_;simp [h1,h2,h3,h4,hk,E.pv_eq k];refine hC.call [] hcall (by simp [E.av,E.cells]) ?_;refine hC.go [] 90 ?_;simp [hb]
     ·rw [if_neg h4,hk,E.beh.headB] at hb;refine hC.til [1031] [] 90 ?_;simp [h1,h2,h3,h4,hk,E.pv_eq k];refine hC.call [] hcall (by simp [E.av,E.cells]) ?_;refine hC.til [1031] [] 90 ?_;simp;obtain ⟨rs,hrs⟩:∃rs,k.beh a=rs:=⟨_,rfl⟩;have hrt:∀r∈rs,TameR r:=(by rw [←hrs];exact beh_rest hkt a);obtain ⟨ag,hag⟩:∃ag,E.mk 42 ⟨#[]⟩ [k]=ag:=⟨_,rfl⟩;have hagc:ag.cells = [.pv (.val (.int .u8 42)),.pv (.val (.string ⟨#[]⟩)),.pv (.ro 3 [k.pv])]:=(by rw [←hag];simp [E.cells,E.op,E.name,E.kids]);have hagp:ag.pv = [.val (.int .u8 42),.val (.string ⟨#[]⟩),.ro 3 [k.pv]]:=(by rw [←hag,E.pv_eq];simp [E.op,E.name,E.kids]);rw [hrs,hag] at hb;have hrl:rs.length≤24*24:=(by rw [hb,List.length_map] at hel;exact hel);refine go_loop (ι:={j:Nat × List Rest // j.1≤rs.length∧(rs.take j.1).map (·++[ag])=j.2}) (fun j=>⟨[(5,.own (.can 0)),(12,.ptr (.loc 12) 0),(25,.pv (restsV rs)),(26,vI rs.length),(27,vI j.1.1)],
       [(.loc 12,some (.box 63 ag.cells)),(.can 0,some (restsB j.1.2))]⟩)
       (fun j=>rs.length-j.1.1) ⟨(0,[]),by simp⟩ [(.can 0,.nil)] (by simp [hagc,hrs,E.pv_eq k]) fun z ihj=>?_
      obtain ⟨⟨j,m⟩,hj,hm⟩:=z;simp only at hj hm ihj;by_cases hjl:j<rs.length
      ·have hwj:=wr64 ((j:Int)+1) (by omega);have hrj:=(hrt rs[j] (by simp)).1;have htk:rs.take (j+1)=rs.take j++[rs[j]]:=(by rw [List.take_add_one,List.getElem?_eq_getElem hjl];rfl);have hml:m.length≤24*24:=(by rw [←hm,List.length_map,List.length_take];omega);have hstep:(rs.take (j+1)).map (·++[ag])=m++[rs[j]++[ag]]:=(by rw [htk,List.map_append,←hm];rfl);refine hC.til [1031] [] 90 ?_;simp [hjl,hagc];refine hC.drawn (by kernel_rfl) (by simp) ?_;refine hC.go [] 90 ?_;simp;refine hC.callD [] 33 (h201 Gl rs[j] (by omega)) (by simp) ?_;refine hC.go [] 90 ?_;simp;refine ⟨by omega,?_⟩;refine hC.buildLay (t:=36) (r:=.loc 36) (e:=63) (sz:=3) (es:=(rs[j]++[ag]).map E.pv) rfl (by simp [hagp]) ?_;refine hC.til [1031] [] 90 ?_;simp;refine ⟨by omega,?_⟩;exact go_to [(.can 0,.nm (.loc 38))] (ihj ⟨(j+1,m++[rs[j]++[ag]]),hjl,hstep⟩ (by simp;omega)) (by simp [hwj,hagc])
      ·have htk:rs.take j=rs:=List.take_of_length_le (by omega);rw [htk,←hb] at hm;subst hm;refine hC.til [1031] [] 90 ?_;simp [hjl,E.cells];exact go_to [] tail (by simp)
termination_by SizeOf.sizeOf e
decreasing_by exact E.kids_lt hk
abbrev keyD (K:List Int)(s:Nat):Int:=K.getD s 0
abbrev natsD (l:List Nat):Blk:=.row 3 1 (l.map fun z:Nat=>[.val (.int .i64 (z:Int))])
abbrev intsD (l:List Int):Blk:=.row 3 1 (l.map fun z=>[.val (.int .i64 z)])
abbrev rowsD (l:List (List Int)):Blk:=.row 50 1 (l.map fun r=>[ints r])
abbrev finD (l:List Bool):Blk:=.row 4 1 (l.map fun b=>[.val (.bool b)])
def metN (K:List Int)(A:List Nat):Ents:=A.zipIdx.map fun p=>(Value.int .i64 (keyD K p.1),vI (p.2:Nat))
theorem metN_snoc (K:List Int)(A:List Nat)(s:Nat):metN K (A++[s])=metN K A++[(.int .i64 (keyD K s),vI A.length)]:=by
 simp [metN,List.zipIdx_append]
theorem metN_mem {K:List Int}{A:List Nat}{s:Int}{n:Nat}(h:(A.map (keyD K))[n]?=some s):(.int .i64 s,vI n)∈metN K A:=by
 rw [List.getElem?_map] at h;obtain ⟨x,hx,rfl⟩:=Option.map_eq_some_iff.1 h;exact List.mem_map.2 ⟨(x,n),List.mem_zipIdx_iff_getElem?.2 hx,rfl⟩
theorem metN_not {K:List Int}{A:List Nat}{s:Int}(h:s∉A.map (keyD K)):∀p∈metN K A,p.1≠.int .i64 s:=fun p hp e=>by
 obtain ⟨q,hq,rfl⟩:=List.mem_map.1 hp;obtain ⟨h1,h2⟩:=List.mem_zipIdx' hq;simp only [Value.int.injEq,true_and] at e;exact h (List.mem_map.2 ⟨q.1,by rw [h2];exact List.getElem_mem _,e⟩)
theorem key_i64 (z:Int)(h0 : -9223372036854775808≤z)(h1:z≤9223372036854775807):keyOf Tryz.prog 3 (.int .i64 z)=some (.int .i64 z):=by
 refine Go.Maps.keyOf_int_mk Tryz.underlying3 ?_;have e1:IntKind.min .i64 = -9223372036854775808:=by decide
 have e2:IntKind.max .i64=9223372036854775807:=by decide
 simp only [Lit.wf,Bool.and_eq_true,decide_eq_true_eq,e1,e2];exact ⟨h0,h1⟩
set_option maxRecDepth 20000 in
set_option maxHeartbeats 8000000 in
theorem h133 (Gl:Granted)(d:Au)(hlim:Lim d)(hN:d.names.length≤1000)(hn:d.next.length≤16777216)(K:List Int)(hC0:K.length=d.next.length)(hK:∀c∈K,0≤c∧c≤1000000000) :
 Fun Tryz.prog Gl 231 [d.av,.pv (ints K)] [] (numbered d K).av []:=by
 have hfl:=hlim.fin;have hDk:∀s (hs:s<d.next.length),(nextN d s).length=d.names.length:=fun s hs=>by
  have e1:d.next[s]?=some d.next[s]:=by simp
  rw [nextN_len e1,(hlim.row _ (List.getElem_mem hs)).1]
 have hDr:∀(s k:Nat) (hs:s<d.next.length) (hk:k<d.next[s].length),(nextN d s)[k]?=some (if d.next[s][k]<0 then none else some d.next[s][k].toNat):=fun s k hs hk=>
  nextN_get (r:=d.next[s]) (t:=d.next[s][k]) (by simp) (by simp)
 have hnumb:(numbered d K).av = .agg [.pv (namesV d.names),.pv (rowsV (numM d K d.next.length).2),.pv (finV ((numM d K d.next.length).1.map fun s=>d.final.getD s false))]:=by
  simp only [numbered,Au.av,Au.cells]
 rw [hnumb];have hof:=num_of hlim K;have hle:=num_len hlim K;have h0:=hlim.pos;have hrow:=hlim.row;clear hnumb hlim;generalize hNe:d.names=N at hN hDk hrow;obtain ⟨n,hnn⟩:∃n,d.next.length=n:=⟨_,rfl⟩;rw [hnn] at hfl hn hof hle h0 hC0;simp only [hnn];have hK0:0<K.length:=by omega
 have hKr:=fun s (hs:s<K.length)=>hK K[s] (List.getElem_mem hs);have hr0:=hKr 0 hK0;refine fun_of (T:=T5) (n:=97) (rs:=[.cell 4 137]) Tryz.func231 (by kernel_rfl) rfl rfl rfl tok5 mixed (by simp) fun C hC=>?_;refine hC.go [22] 90 ?_;simp [Au.av,Au.cells,hNe];refine hC.makeC 3 rfl rfl (by simp) ?_;refine hC.go [22] 90 ?_;simp [hK0];refine hC.putC (l:=[]) (av:=vI 0) Tryz.underlying127 (Maps.int_keyed Tryz.underlying3) (.loc 17) (.inr rfl) (key_one _) (key_i64 _ (by omega) (by omega)) (by simp) (by simp) ?_;refine hC.go [22] 90 ?_;simp;refine go_loop (ι:={i:Nat // i≤n∧i≤(numM d K i).1.length}) (fun x=>⟨[(1,.pv (ints K)),(2,.ptr (.loc 2) 0),(4,.ptr (.loc 4) 0),(5,.ptr (.loc 5) 0),(6,.hmap (.can 3)),(7,.own (.can 0)),(8,vI x.1)],
  [(.loc 2,some (.box 137 d.cells)),(.loc 4,some (.box 137 [nm0,nm0,nm0])),(.loc 5,some (.box 137 [.pv (namesV N),.own (.can 1),.own (.can 2)])),(.can 0,some (natsD (numM d K x.1).1)),(.can 1,some (rowsD (numM d K x.1).2)),(.can 2,some (finD (((numM d K x.1).1.take x.1).map fun s=>d.final.getD s false))),(.can 3,some (.gen (mapC Tryz.prog 3 (metN K (numM d K x.1).1))))]⟩)
  (fun x=>n-x.1) ⟨0,by simp⟩ [(.can 0,.nm (.loc 22)),(.can 1,.nil),(.can 2,.nil),(.can 3,.nm (.loc 17))] (by simp [num_first,Au.cells,hNe,metN,List.getD,hK0]) fun x ih=>?_
 obtain ⟨i,hi,hi2⟩:=x;simp only at ih;by_cases hlt:i<(numM d K i).1.length
 ·have hle1:=hle (i+1);have hle0:=hle i;have hrows:=num_rows d K i hi2;obtain ⟨m1,hpre⟩:=num_pre d K i;have ih':=ih ⟨i+1,by omega,by rw [hpre,List.length_append];omega⟩ (by simp;omega);obtain ⟨s,hs⟩:∃s,(numM d K i).1[i]=s:=⟨_,rfl⟩;have hsn:=hof i s (by rw [←hs];simp);have hstep:=num_step d K i s (by rw [List.getElem?_eq_getElem hlt,hs]);have hnd:=num_nodup d K i;have hofi:=hof i;rw [hstep] at hle1 hpre;simp only at hle1 hpre;simp only [hstep] at ih';simp only [hpre] at ih';rw [show ((numM d K i).1++m1).take (i+1)=(numM d K i).1.take i++[s] by rw [List.take_append_of_le_length (by omega),List.take_add_one,List.getElem?_eq_getElem hlt,hs];rfl] at ih';rw [←hpre] at ih';dsimp only at ih' ⊢;clear hstep ih hle;generalize numM d K i=M at hlt hs ih' hnd hofi hrows hle0 hle1 hpre hi2;obtain ⟨A,R⟩:=M;simp only at hlt hs ih' hnd hofi hrows hle0 hle1 hpre hi2;have hw1:=wr64 ((i:Int)+1) (by omega);have hsd:s<d.next.length:=by omega
  have hrl:=(hrow _ (List.getElem_mem hsd));have hlen:=hDk s hsd;have hDs:=fun k hk=>hDr s k hsd hk;rw [hnn] at hrl;obtain ⟨r,hr⟩:∃r,d.next[s]=r:=⟨_,rfl⟩;simp only [hr] at hrl hDs;clear hDr hDk hrow;generalize nextN d s=l at ih' hlen hDs hle1 hpre;generalize hfin:(A.take i).map (fun s=>d.final.getD s false)=fs at ih';have hfsl:fs.length=i:=by rw [←hfin,List.length_map,List.length_take];omega
  have hfs:d.final.getD s false=d.final[s]'(by omega):=by simp [List.getD,show s<d.final.length by omega]
  rw [List.map_append,hfin] at ih';simp only [List.map_cons,List.map_nil,hfs] at ih';simp only [hfin];refine hC.go [] 90 ?_;simp [hlt];refine hC.drawn (by kernel_rfl) (by simp [Au.cells]) ?_;refine hC.go [] 90 ?_;simp [Au.cells,hs,hsd,hr,hlt];refine go_loop (ι:={k:Nat // k≤r.length}) (fun x=>⟨[(1,.pv (ints K)),(2,.ptr (.loc 2) 0),(4,.ptr (.loc 4) 0),(5,.ptr (.loc 5) 0),(6,.hmap (.can 3)),(7,.own (.can 0)),(8,vI i),(9,.own (.can 4)),(36,.pv (ints r)),(37,vI r.length),(38,vI x.1)],
   [(.loc 2,some (.box 137 d.cells)),(.loc 4,some (.box 137 [nm0,nm0,nm0])),(.loc 5,some (.box 137 [.pv (namesV N),.own (.can 1),.own (.can 2)])),(.can 0,some (natsD (rowQ (keyD K) A l x.1).1)),(.can 1,some (rowsD R)),(.can 2,some (finD fs)),(.can 3,some (.gen (mapC Tryz.prog 3 (metN K (rowQ (keyD K) A l x.1).1)))),(.can 4,some (intsD (rowQ (keyD K) A l x.1).2))]⟩)
   (fun x=>r.length-x.1) ⟨0,Nat.zero_le _⟩ [(.can 4,.nil)] (by simp [rowQ_zero,Au.cells]) fun x ihk=>?_
  obtain ⟨k,hk⟩:=x;simp only at hk ihk;obtain ⟨q1,q2,q3,m2,q4,q5⟩:=rowQ_facts (keyD K) (l:=l) hnd k (by omega);have q3':(rowQ (keyD K) A l k).1.length≤n:=Nat.le_trans q3 hle1;have hAi:(rowQ (keyD K) A l k).1[i]?=some s:=by rw [q4,List.getElem?_append_left hlt,List.getElem?_eq_getElem hlt,hs]
  by_cases hkl:k<r.length
  ·have hwk:=wr64 ((k:Int)+1) (by omega);have ihk':=ihk ⟨k+1,hkl⟩ (by simp;omega);have hlk:=hDs k hkl;clear ih' ihk;rcases hrl.2 r[k] (by simp) with hp|⟨p,hp,hpn⟩
   ·rw [if_pos (by omega)] at hlk;rw [rowQ_none (keyD K) hlk] at ihk';generalize rowQ (keyD K) A l k=Q at q1 q2 q3 q3' q4 hAi ihk';obtain ⟨A',Z⟩:=Q;simp only at q1 q2 q3 q3' q4 hAi ihk';refine hC.go [] 90 ?_;simp [hkl,hp,Au.cells];refine ⟨by omega,?_⟩;exact go_to [(.can 4,.nm (.loc 46))] ihk' (by simp [hwk,Au.cells])
   ·rw [if_neg (by omega)] at hlk;rw [hp,Int.toNat_natCast] at hlk;rw [rowQ_some (keyD K) hlk] at ihk';have hpC:p<K.length:=(by omega);have hkp:keyD K p=K[p]:=(by simp [keyD,List.getD,hpC]);rw [hkp] at ihk';have hKp:=hKr p hpC;generalize rowQ (keyD K) A l k=Q at q1 q2 q3 q3' q4 hAi ihk';obtain ⟨A',Z⟩:=Q;simp only at q1 q2 q3 q3' q4 hAi ihk';have hz3:∃z,(∀w,(zeroValue 3).run Tryz.prog w = .ok z w)∧∀(w:World) (F:Nat→Prop) (hd:Nm→Hd),Rep w F hd (vI 0) z:=⟨.int .i64 0,Tryz.zeroValue3,fun _ _ _=>rep_val rfl⟩;have hneg:¬(p:Int)<0:=(by omega);refine hC.go [] 90 ?_;simp [hkl,hp,hneg,hpC,Au.cells];by_cases hm:K[p]∈A'.map (keyD K)
    ·rw [if_pos hm] at ihk';simp only at ihk';have hix:=ixK_mem hm;obtain ⟨ix,hixe⟩:∃n,ixK K[p] (A'.map (keyD K))=n:=⟨_,rfl⟩;rw [hixe] at hix ihk';refine hC.getC Tryz.underlying127 (Maps.int_keyed Tryz.underlying3) (.can 3) (zero:=vI 0) (l:=metN K A') hz3 (.tup [vI ix,vB true]) rfl (key_one _) (key_i64 _ (by omega) (by omega)) (.inr ⟨vI ix,metN_mem hix,rfl⟩) (by simp) ?_;refine hC.go [] 90 ?_;simp;refine ⟨by omega,?_⟩;exact go_to [(.can 4,.nm (.loc 75))] ihk' (by simp [hwk,Au.cells])
    ·rw [if_neg hm] at ihk';simp only at ihk';refine hC.getC Tryz.underlying127 (Maps.int_keyed Tryz.underlying3) (.can 3) (zero:=vI 0) (l:=metN K A') hz3 (.tup [vI 0,vB false]) rfl (key_one _) (key_i64 _ (by omega) (by omega)) (.inl ⟨metN_not hm,rfl⟩) (by simp) ?_;refine hC.go [] 90 ?_;simp;refine hC.drawn (by kernel_rfl) (by simp) ?_;refine hC.go [] 90 ?_;simp [hpC];refine ⟨by omega,?_⟩;refine hC.entryC (l:=metN K A') (zero:=vI 0) (z:=.int .i64 0) Tryz.underlying127 (Maps.int_keyed Tryz.underlying3) (.can 3) Tryz.zeroValue3 (fun _ _ _=>rep_val rfl) rfl rfl (key_one _) (key_i64 _ (by omega) (by omega)) (metN_not hm) (by simp) ?_;refine hC.go [] 90 ?_;simp;refine hC.storeC (.can 3) (k:=3) (key:=.int .i64 K[p]) (zero:=vI 0) (av:=vI A'.length) (l:=metN K A') rfl (by simp) ?_;refine hC.go [] 90 ?_;simp;refine ⟨by omega,?_⟩;exact go_to [(.can 4,.nm (.loc 75)),(.can 0,.nm (.loc 69))] ihk' (by simp [hwk,Au.cells,metN_snoc,hkp,hpC])
  ·have hkN:k=r.length:=(by omega);subst hkN;rw [←rowQ_all,hlen,←hrl.1] at ih';clear ihk q1 q3 q3' q4 q5;generalize rowQ (keyD K) A l r.length=Q at ih' q2 hAi;obtain ⟨A',Z⟩:=Q;simp only at ih' q2 hAi;have hiA:=(List.getElem?_eq_some_iff.1 hAi).1;have hAe:A'[i]=s:=(List.getElem?_eq_some_iff.1 hAi).2;have hsf:s<d.final.length:=(by omega);refine hC.til [19] [] 90 ?_;simp;refine go_to (M:=⟨[(1,.pv (ints K)),(2,.ptr (.loc 2) 0),(4,.ptr (.loc 4) 0),(5,.ptr (.loc 5) 0),(6,.hmap (.can 3)),(7,.own (.can 0)),(8,vI i),(9,.pv (ints Z))],
    [(.loc 2,some (.box 137 d.cells)),(.loc 4,some (.box 137 [nm0,nm0,nm0])),(.loc 5,some (.box 137 [.pv (namesV N),.own (.can 1),.own (.can 2)])),(.can 0,some (natsD A')),(.can 1,some (rowsD R)),(.can 2,some (finD fs)),(.can 3,some (.gen (mapC Tryz.prog 3 (metN K A'))))]⟩) [] ?_ (by simp [Au.cells])
   refine hC.drawn (by kernel_rfl) (by simp [Au.cells]) ?_;refine hC.go [] 90 ?_;simp [hiA,hAe,hsf,Au.cells];refine ⟨by omega,?_⟩;refine ⟨by omega,?_⟩;exact go_to [(.can 1,.nm (.loc 81)),(.can 2,.nm (.loc 93))] ih' (by simp [hw1,Au.cells])
 ·have hin:i=(numM d K i).1.length:=by omega
  rw [num_end d K i n (by omega) hi] at hC;have htk:(numM d K i).1.take i=(numM d K i).1:=List.take_of_length_le (by omega);simp only [htk];refine hC.go [] 90 ?_;simp [hlt,Au.av,Au.cells]
theorem tame_print (Gl:Granted){k:E}(h:Tame k):Fun Tryz.prog Gl 76 [k.av] [] (.tup [vS (k.text false),vI 0]) []:=by
 have:=f17 Gl k (ok_small k h.1) (by have:=h.2;omega);rw [E.print,if_pos (tame_right h)] at this;exact this
abbrev strsB (l:List ByteArray):Blk:=.row 9 1 (l.map fun s=>[.val (.string s)])
set_option maxRecDepth 20000 in
theorem h134 (Gl:Granted)(r:Rest)(hr:TameR r):Fun Tryz.prog Gl 232 [rV r] [] (vS (rtext r)) []:=by
 have hrl:=hr.1;have hsz:=rtext_size hr;refine fun_of (T:=T5) (n:=26) (rs:=[.tmp 2]) Tryz.func232 (by kernel_rfl) rfl rfl rfl tok5 mixed (by simp) fun C hC=>?_;refine hC.go [] 60 ?_;simp;refine go_loop (ι:={x:Nat × List ByteArray // x.1≤r.length∧x.2=(r.take x.1).map fun e=>e.text false}) (fun x=>⟨[(3,.own (.can 0)),(8,rV r),(9,vI r.length),(10,vI x.1.1)],[(.can 0,some (strsB x.1.2))]⟩) (fun x=>r.length-x.1.1) ⟨(0,[]),by simp⟩ [(.can 0,.nil)] (by simp) fun x ih=>?_;obtain ⟨⟨i,l⟩,hi,hl⟩:=x;simp only at hi hl ih;have hll:l.length≤r.length:=by rw [hl];simp;omega
 by_cases hlt:i<r.length
 ·have hw:=wr64 ((i:Int)+1) (by omega);have htk:(r.take (i+1)).map (fun e=>e.text false)=l++[r[i].text false]:=by rw [List.take_add_one,List.getElem?_eq_getElem hlt,hl,List.map_append];rfl
  refine hC.go [] 60 ?_;simp [hlt,E.pv_eq r[i]];refine hC.call [] (tame_print Gl (hr.2 r[i] (by simp))) (by simp [E.av,E.cells]) ?_;refine hC.go [] 60 ?_;simp;refine ⟨by omega,?_⟩;exact go_to [(.can 0,.nm (.loc 22))] (ih ⟨(i+1,l++[r[i].text false]),hlt,htk.symm⟩ (by simp;omega)) (by simp [hw])
 ·have hl':l=r.map fun e=>e.text false:=by rw [hl,List.take_of_length_le (by omega)]
  have hj:joinB l ⟨#[44]⟩=rtext r:=by rw [hl'];rfl
  refine hC.go [] 60 ?_;simp [hlt];refine hC.call [.can 0] (fun_ownRow (a:=[]) (b:=[vS ⟨#[44]⟩]) (e:=9) (by simp [AV.ments]) rfl (f39 Gl l ⟨#[44]⟩ (by omega) (by rw [hj];omega))) (by simp) ?_;refine hC.go [] 60 ?_;simp [hj]
theorem h203 (Gl:Granted)(k:E)(h:Tame k):Fun Tryz.prog Gl 292 [k.av] [] (vB (!k.nul)) []:=by
 refine fun_of (T:=T5) (n:=6) (rs:=[.tmp 2]) Tryz.func292 (by kernel_rfl) rfl rfl rfl tok5 mixed (by simp) fun C hC=>?_;refine hC.go [] 60 ?_;simp [E.av,E.cells];refine hC.call [] (h24nil Gl h 0) (by simp [E.av,E.cells]) ?_;refine hC.go [] 60 ?_;simp
theorem h230 (Gl:Granted)(l:List E)(g:Nat)(q:E→Bool)(hq:∀x∈l,Fun Tryz.prog Gl g [x.av] [] (vB (q x)) [])(hl:l.length≤1000000) :
 Fun Tryz.prog Gl 312 [rV l,.fn (.func g) [] []] [] (vI (firstIx q l 0)) []:=by
 refine fun_of (T:=T5) (n:=19) (rs:=[.tmp 4]) Tryz.func312 (by kernel_rfl) rfl rfl rfl tok5 mixed (by simp) fun C hC=>?_;refine hC.go [] 60 ?_;simp;refine go_loop (ι:={i:Nat // i≤l.length∧firstIx q l 0=firstIx q (l.drop i) i}) (fun x=>⟨[(0,rV l),(1,.fn (.func g) [] []),(6,rV l),(7,vI l.length),(8,vI x.1)],[]⟩) (fun x=>l.length-x.1) ⟨0,by simp⟩ [] (by simp) fun x ih=>?_;obtain ⟨i,hi,hn⟩:=x;simp only at hi hn ih;by_cases hlt:i<l.length
 ·rw [List.drop_eq_getElem_cons hlt] at hn;simp only [firstIx] at hn;refine hC.go [] 60 ?_;simp [hlt,E.pv_eq l[i]];refine hC.call [] (hq l[i] (by simp)) (by simp [E.av,E.cells]) ?_;cases hqi:q l[i] with
  |true=>
   refine hC.go [] 60 ?_;simp [hn,hqi]
  |false=>
   have hw:=wr64 ((i:Int)+1) (by omega);refine hC.go [] 60 ?_;simp;exact go_to [] (ih ⟨i+1,hlt,by simpa [hqi] using hn⟩ (by simp;omega)) (by simp [hw])
 ·rw [List.drop_eq_nil_of_le (by omega)] at hn;refine hC.go [] 60 ?_;simp [hlt,hn,firstIx]
theorem h202 (Gl:Granted)(l:List E)(g:Nat)(q:E→Bool)(hq:∀x∈l,Fun Tryz.prog Gl g [x.av] [] (vB (q x)) [])(hl:l.length≤1000000) :
 Fun Tryz.prog Gl 291 [rV l,.fn (.func g) [] []] [] (vB (l.any q)) []:=by
 refine fun_of (T:=T5) (n:=9) (rs:=[.tmp 4]) Tryz.func291 (by kernel_rfl) rfl rfl rfl tok5 mixed (by simp) fun C hC=>?_;refine hC.go [] 60 ?_;simp;refine hC.call [] (h230 Gl l g q hq hl) (by simp) ?_;refine hC.go [] 60 ?_;simp [firstIx_any]
theorem nulR_any (r:Rest):nulR r = !(r.any fun k=>!k.nul):=by
 unfold nulR;induction r with
 |nil=>rfl
 |cons k r ih=>simp only [E.nul.allN,List.any_cons,ih];cases k.nul<;>simp
theorem h173 (Gl:Granted)(r:Rest)(hr:TameR r):Fun Tryz.prog Gl 269 [rV r] [] (vB (nulR r)) []:=by
 refine fun_of (T:=T5) (n:=6) (rs:=[.tmp 2]) Tryz.func269 (by kernel_rfl) rfl rfl rfl tok5 mixed (by simp) fun C hC=>?_;refine hC.go [] 60 ?_;simp;refine hC.call [] (h202 Gl r 292 (fun k=>!k.nul) (fun x hx=>h203 Gl x (hr.2 x hx)) (by have:=hr.1;omega)) (by simp) ?_;refine hC.go [] 60 ?_;simp [nulR_any]
def metS (A:List (List Int)):Ents:=A.zipIdx.map fun p=>(Value.string (signB p.1),vI (p.2:Nat))
theorem metS_snoc (A:List (List Int))(s:List Int):metS (A++[s])=metS A++[(.string (signB s),vI A.length)]:=by
 simp [metS,List.zipIdx_append]
theorem metS_len (A:List (List Int)):(metS A).length=A.length:=by simp [metS]
theorem metS_mem {A:List (List Int)}{s:List Int}{n:Nat}(h:A[n]?=some s):(.string (signB s),vI n)∈metS A:=
 List.mem_map.2 ⟨(s,n),List.mem_zipIdx_iff_getElem?.2 h,rfl⟩
theorem metS_not {A:List (List Int)}{s:List Int}(hne:∀x∈A,x≠[])(hs:s≠[])(h:s∉A):∀p∈metS A,p.1≠.string (signB s):=fun p hp e=>by
 obtain ⟨q,hq,rfl⟩:=List.mem_map.1 hp;obtain ⟨h1,h2⟩:=List.mem_zipIdx' hq;simp only [Value.string.injEq] at e;have hm:q.1∈A:=by rw [h2];exact List.getElem_mem _
 exact h (signB_inj (hne _ hm) hs e ▸ hm)
theorem key_sign (s:ByteArray)(h:s.size≤maxLen):keyOf Tryz.prog 9 (.string s)=some (.string s.data.toList):=by
 simp [keyOf,Tryz.underlying9,mapKey];exact h
theorem zrep {α:Type}(Z:List α)(i n:Nat)(z v:α)(hl:Z.length=i)(hi:i<n):(Z++List.replicate (n-i) z).set i v=(Z++[v])++List.replicate (n-(i+1)) z:=by
 have e:n-i=(n-(i+1))+1:=by omega
 rw [e,List.replicate_succ,List.set_append_right _ _ (by omega),hl,Nat.sub_self,List.set_cons_zero];simp
theorem zget {α:Type}(Z:List α)(i n:Nat)(z:α)(hl:Z.length=i)(hi:i<n):(Z++List.replicate (n-i) z)[i]?=some z:=by
 rw [List.getElem?_append_right (by omega),hl,Nat.sub_self,List.getElem?_replicate];simp;omega
theorem signs_len (d:Au)(K:List Int):(signs d K).length=d.next.length:=by simp [signs]
theorem signs_at (d:Au)(K:List Int){i:Nat}(hi:i<d.next.length):(signs d K)[i]?=some (K.getD i 0::d.next[i].map (clsOf K)):=by
 simp [signs,signOf,hi]
theorem sign_ne {d:Au}{K:List Int}{x:List Int}(h:some x∈(signs d K).map some):x≠[]:=by
 obtain ⟨y,hy,e⟩:=List.mem_map.1 h;cases e;obtain ⟨i,_,rfl⟩:=List.mem_map.1 hy;simp [signOf]
theorem Sem0.lim {d:Au}{L:Nat→Row→Prop}(h:Sem0 d L)(hn:d.names.Nodup):Lim d:=by
 refine ⟨h.pos,h.len,fun r hr=>⟨h.row r hr,fun t ht=>?_⟩⟩;obtain ⟨i,hi⟩:=List.getElem?_of_mem hr;obtain ⟨k,hk⟩:=List.getElem?_of_mem ht;have hil:=(List.getElem?_eq_some_iff.1 hi).1;have hkl:=(List.getElem?_eq_some_iff.1 hk).1;have hkn:k<d.names.length:=by rw [←h.row r hr];exact hkl
 have ha:d.names[k]?=some d.names[k]:=by simp
 have:=getRow h hn hi ha;rw [hk] at this;cases this;rcases h.step i hil d.names[k] (by simp) with ⟨e,_⟩|⟨m,e,hm,_⟩
 ·exact .inl e
 ·exact .inr ⟨m,e,hm⟩
abbrev infJ:TI:=⟨false,1,8,[.val (.int .i64 0)],.int .i64⟩
set_option maxRecDepth 20000 in
set_option maxHeartbeats 8000000 in
theorem h92 (d:Au){L:Nat→Row→Prop}(hS:Sem d L)(hnd:d.names.Nodup)(hlim:Lim d)(hN:d.names.length≤1000)(hn:d.next.length≤16777216):Fun Tryz.prog tab10 180 [d.av] [] (leastA d L).av []:=by
 have hfl:=hlim.fin;have hez:=even_live hS hnd;have hstart:=cls_start hS.toSem0;have hround:=fun (K:List Int) (many:Nat) (h:Cls d L K many)=>cls_round hS.toSem0 hnd hez h;have hleast:=fun (K:List Int) (h:Exact d L K)=>leastA_eq hS hnd h;obtain ⟨n,hnn⟩:∃n,d.next.length=n:=⟨_,rfl⟩;have h133:=fun (K:List Int) (hC0:K.length=d.next.length) (hK:∀c∈K,0≤c∧c≤1000000000)=>h133 tab10 d hlim hN hn K hC0 hK;have hrow:=hlim.row;have hcl:(cls0 d).length=d.next.length:=by rw [cls0,List.length_map,hfl]
 clear hS;rw [hnn] at hfl hn hcl;refine fun_of (T:=T5) (n:=93) (rs:=[.cell 2 137]) Tryz.func180 (by kernel_rfl) rfl rfl rfl tok5 mixed (by simp) fun C hC=>?_;refine hC.go [] 90 ?_;simp [Au.av,Au.cells];refine hC.makeRow (e:=3) (inf:=infJ) n rfl rfl (by simp [hnn];omega) ?_;refine hC.go [] 90 ?_;simp;refine go_loop (ι:={i:Nat // i≤n}) (fun x=>⟨[(1,.ptr (.loc 1) 0),(2,.ptr (.loc 2) 0),(3,.own (.can 0)),(21,.pv (finV d.final)),(22,vI n),(23,vI x.1)],
  [(.loc 1,some (.box 137 d.cells)),(.loc 2,some (.box 137 [nm0,nm0,nm0])),(.can 0,some (intsD ((cls0 d).take x.1++List.replicate (n-x.1) 0)))]⟩)
  (fun x=>n-x.1) ⟨0,by simp⟩ [(.can 0,.nm (.loc 19))] (by simp [Au.cells,hfl]) fun x ih=>?_
 obtain ⟨i,hi⟩:=x;simp only at hi ih;by_cases hlt:i<n
 ·have hw:=wr64 ((i:Int)+1) (by omega);have ih':=ih ⟨i+1,hlt⟩ (by simp;omega);have hif:i<d.final.length:=by omega
  have htl:((cls0 d).take i).length=i:=by rw [List.length_take];omega
  have htk:(cls0 d).take (i+1)=(cls0 d).take i++[if d.final[i]=true then 1 else 0]:=by
   rw [List.take_add_one];congr 1;simp [cls0,hif]
  have hset:=fun v=>zrep ((cls0 d).take i) i n (0:Int) v htl hlt;have hget:=zget ((cls0 d).take i) i n (0:Int) htl hlt;simp only [htk] at ih';dsimp only;generalize (cls0 d).take i=Z at htl hset hget ih';rw [←hset] at ih';have hzl:i<(Z++List.replicate (n-i) (0:Int)).length:=(List.getElem?_eq_some_iff.1 hget).1;have hzi:(Z++List.replicate (n-i) (0:Int))[i]=0:=(List.getElem?_eq_some_iff.1 hget).2;generalize Z++List.replicate (n-i) (0:Int)=Y at hget hzl hzi ih';have hlI:(i:Int)<n:=by omega
  cases hb:d.final[i] with
  |true=>
   refine hC.go [] 90 ?_;simp [hlI,hif,hb,Au.cells,hzl];refine hC.storeE (.can 0) (e:=3) (sz:=1) (inf:=infJ) (es:=Y.map fun z=>[.val (.int .i64 z)]) (k:=i) (f:=0) (el:=[.val (.int .i64 0)]) [.val (.int .i64 1)] rfl (by simp [hget]) ?_;refine hC.go [] 90 ?_;simp;exact go_to [] ih' (by simp [hw,hb,List.map_set,Au.cells])
  |false=>
   have hsame:Y.set i 0=Y:=by
    rw [←hzi];exact List.set_getElem_self _
   refine hC.go [] 90 ?_;simp [hlI,hif,hb,Au.cells,hzl];exact go_to [] ih' (by simp [hw,hb,hsame,Au.cells])
 ·have hin:i=n:=by omega
  subst hin;have htk:(cls0 d).take i=cls0 d:=List.take_of_length_le (by omega);simp only [htk,Nat.sub_self,List.replicate_zero,List.append_nil];refine hC.go [] 90 ?_;simp [Au.cells];have hc0:∀c∈cls0 d,c≤16777216:=fun c hc=>by
   obtain ⟨b,_,rfl⟩:=List.mem_map.1 hc;cases b<;>decide
  refine go_loop (ι:={x:List Int × Nat // Cls d L x.1 x.2∧∀c∈x.1,c≤16777216}) (fun x=>⟨[(1,.ptr (.loc 1) 0),(2,.ptr (.loc 2) 0),(3,.pv (ints x.1.1)),(6,vI x.1.2)],
   [(.loc 1,some (.box 137 d.cells)),(.loc 2,some (.box 137 [nm0,nm0,nm0]))]⟩)
   (fun x=>i+1-x.1.2) ⟨(cls0 d,0),hstart,hc0⟩ [] (by simp [Au.cells]) fun x ih=>?_
  obtain ⟨⟨K,many⟩,hK,hKb⟩:=x;simp only at hK hKb ih;obtain ⟨r1,r2,r3,r4,r5,r6⟩:=hround K many hK;have hKl:=hK.len;have hKp:=hK.pos;rw [hnn] at r4 hKl;have hsl:=signs_len d K;have hsat:=fun i hi=>signs_at d K (i:=i) hi;have hsne:=fun x hx=>sign_ne (d:=d) (K:=K) (x:=x) hx;have hrel:relab (signs d K)=((rowQ id [] ((signs d K).map some) i).2,(rowQ id [] ((signs d K).map some) i).1.length):=by
   have:i=((signs d K).map some).length:=(by rw [List.length_map,hsl,hnn]);rw [this,rowQ_all];rfl
  rw [hnn] at hsl;refine hC.go [] 90 ?_;simp;refine hC.mapMake 9 rfl rfl (by simp [Au.cells]) ?_;refine hC.go [] 90 ?_;simp;refine hC.makeRow (e:=3) (inf:=infJ) i rfl rfl (by simp [hKl,Au.cells];omega) ?_;refine hC.go [] 90 ?_;simp [Au.cells];have hspec:=(relab_spec (signs d K)).2.1;rw [hrel] at r1 r2 r3 r4 r5 r6 hspec;simp only at r1 r2 r3 r4 r5 r6 hspec;clear hrel;obtain ⟨sg,hsg⟩:∃sg,signs d K=sg:=⟨_,rfl⟩;rw [hsg] at hsl hsat hsne r1 r2 r3 r4 r5 r6 hspec;refine go_loop (ι:={j:Nat // j≤i}) (fun x=>⟨[(1,.ptr (.loc 1) 0),(2,.ptr (.loc 2) 0),(3,.pv (ints K)),(6,vI many),(7,.hmap (.can 0)),(8,.own (.can 1)),(38,.pv (rowsV d.next)),(39,vI i),(40,vI x.1)],
   [(.loc 1,some (.box 137 d.cells)),(.loc 2,some (.box 137 [nm0,nm0,nm0])),(.can 0,some (.gen (mapG Tryz.prog 9 (metS (rowQ id [] (sg.map some) x.1).1)))),(.can 1,some (intsD ((rowQ id [] (sg.map some) x.1).2++List.replicate (i-x.1) 0)))]⟩)
   (fun x=>i-x.1) ⟨0,by simp⟩ [(.can 0,.nm (.loc 33)),(.can 1,.nm (.loc 36))] (by simp [Au.cells,hnn,rowQ_zero,metS]) fun x ihj=>?_
  obtain ⟨j,hj⟩:=x;simp only at hj ihj;obtain ⟨q1,q2,q3,m2,q4,q5⟩:=rowQ_facts id (A:=([]:List (List Int))) (l:=sg.map some) (by simp) j (by rw [List.length_map];omega);have qne:∀x∈(rowQ id [] (sg.map some) j).1,x≠[]:=fun x hx=>by
   rw [q4,List.nil_append] at hx;exact hsne x (q5 x hx)
  by_cases hjl:j<i
  ·have hw:=wr64 ((j:Int)+1) (by omega);have ihj':=ihj ⟨j+1,hjl⟩ (by simp;omega);have hjd:j<d.next.length:=(by omega);have hjK:j<K.length:=(by omega);obtain ⟨s,hs⟩:∃s,K.getD j 0::d.next[j].map (clsOf K)=s:=⟨_,rfl⟩;have hsj:=hsat j hjd;rw [hs] at hsj;have hlk:(sg.map some)[j]?=some (some s):=(by rw [List.getElem?_map,hsj];rfl);have hsn:s≠[]:=(by rw [←hs];simp);rw [rowQ_some id hlk] at ihj';obtain ⟨r,hr⟩:∃r,d.next[j]=r:=⟨_,rfl⟩;have hrl:=hrow _ (List.getElem_mem hjd);rw [hr,hnn] at hrl;rw [hr] at hs;have hKj:K.getD j 0=K[j]:=(by simp [List.getD,hjK]);rw [hKj] at hs;have hKb1:=hKb K[j] (by simp);have hKp1:=hKp K[j] (by simp);have hKc:∀t∈r,-1≤clsOf K t∧clsOf K t≤16777216:=fun t ht=>by
    unfold clsOf;split
    ·omega
    ·rcases hrl.2 t ht with h|⟨m,rfl,hm⟩
     ·omega
     ·rw [Int.toNat_natCast];have hmK:m<K.length:=(by omega);have e:K.getD m 0=K[m]:=(by simp [List.getD,hmK]);rw [e];have:=hKb K[m] (by simp);have:=hKp K[m] (by simp);omega
   generalize rowQ id [] (sg.map some) j=Q at q1 q2 q3 q4 qne ihj';obtain ⟨A,Z⟩:=Q;simp only at q1 q2 q3 q4 qne ihj';refine hC.go [] 90 ?_;simp [hjl,hjd,hr,hjK];refine hC.call [] (h131 K[j] (by omega) (by omega)) (by simp) ?_;refine hC.go [] 90 ?_;simp;refine go_loop (ι:={x:Nat × ByteArray // x.1≤r.length∧x.2=signB (K[j]::(r.take x.1).map (clsOf K))}) (fun x=>⟨[(1,.ptr (.loc 1) 0),(2,.ptr (.loc 2) 0),(3,.pv (ints K)),(6,vI many),(7,.hmap (.can 0)),(8,.own (.can 1)),(9,vI j),(10,.pv (ints r)),(11,vS x.1.2),(38,.pv (rowsV d.next)),(39,vI i),(40,vI j),(50,.pv (ints r)),(51,vI r.length),(52,vI x.1.1)],
    [(.loc 1,some (.box 137 d.cells)),(.loc 2,some (.box 137 [nm0,nm0,nm0])),(.can 0,some (.gen (mapG Tryz.prog 9 (metS A)))),(.can 1,some (intsD (Z++List.replicate (i-j) 0)))]⟩)
    (fun x=>r.length-x.1.1) ⟨(0,itoaB K[j]),by simp,by simp [signB_one]⟩ [] (by simp [Au.cells]) fun x ihk=>?_
   obtain ⟨⟨k,tx⟩,hk,htx⟩:=x;simp only at hk htx ihk;have hzb:∀z∈K[j]::r.map (clsOf K),-1000000000≤z∧z≤1000000000:=fun z hz=>by
    rcases List.mem_cons.1 hz with rfl|hz
    ·omega
    ·obtain ⟨t,ht,rfl⟩:=List.mem_map.1 hz;have:=hKc t ht;omega
   have hzt:(signB (K[j]::(r.take k).map (clsOf K))).size≤21*((r.take k).length+1):=by
    have:=signB_size (l:=K[j]::(r.take k).map (clsOf K)) fun z hz=>hzb z (by
     rcases List.mem_cons.1 hz with rfl|hz
     ·simp
     ·obtain ⟨t,ht,rfl⟩:=List.mem_map.1 hz;exact List.mem_cons_of_mem _ (List.mem_map.2 ⟨t,List.mem_of_mem_take ht,rfl⟩))
    simpa using this
   rw [List.length_take,←htx] at hzt;by_cases hkl:k<r.length
   ·have hwk:=wr64 ((k:Int)+1) (by omega);have hcc:=hKc r[k] (by simp);have htk:(r.take (k+1)).map (clsOf K)=(r.take k).map (clsOf K)++[clsOf K r[k]]:=(by rw [List.take_add_one,List.getElem?_eq_getElem hkl,List.map_append];rfl);have hnext:tx++(⟨#[44]⟩++itoaB (clsOf K r[k]))=signB (K[j]::(r.take (k+1)).map (clsOf K)):=by
     rw [htk,htx,←List.cons_append,signB_snoc]
    have hof:=h132 tab10 K r[k] (by
     rcases hrl.2 r[k] (by simp) with h|⟨m,h,hm⟩
     ·exact .inl (by omega)
     ·exact .inr ⟨m,h,by omega⟩)
    rw [show (if r[k]<0 then (-1:Int) else K.getD r[k].toNat 0)=clsOf K r[k] from rfl] at hof;have hsz1:=itoaB_size (n:=clsOf K r[k]) (by omega) (by omega);refine hC.go [] 90 ?_;simp [hkl];refine hC.call [] hof (by simp) ?_;refine hC.go [] 90 ?_;simp;refine hC.call [] (h131 (clsOf K r[k]) (by omega) (by omega)) (by simp) ?_;refine hC.go [] 90 ?_;simp;have e44:(⟨#[44]⟩:ByteArray).size=1:=rfl;refine ⟨by omega,by omega,?_⟩;exact go_to [] (ihk ⟨(k+1,tx++(⟨#[44]⟩++itoaB (clsOf K r[k]))),hkl,hnext⟩ (by simp;omega)) (by simp [hwk,Au.cells])
   ·have htk:r.take k=r:=List.take_of_length_le (by omega);rw [htk,hs] at htx;subst htx;refine hC.go [] 90 ?_;simp [hkl];have hsm:(signB s).size≤maxLen:=(by simp only [maxLen];omega);have hz3:∃z,(∀w,(zeroValue 3).run Tryz.prog w = .ok z w)∧∀(w:World) (F:Nat→Prop) (hd:Nm→Hd),Rep w F hd (vI 0) z:=⟨.int .i64 0,Tryz.zeroValue3,fun _ _ _=>rep_val rfl⟩;have hset:=fun v=>zrep Z j i (0:Int) v q2 hjl;have hget:=zget Z j i (0:Int) q2 hjl;by_cases hm:s∈A
    ·rw [if_pos (by simpa using hm)] at ihj';simp only [id_eq,List.map_id] at ihj';have hix:=ixK_mem hm;obtain ⟨ix,hixe⟩:∃n,ixK s A=n:=⟨_,rfl⟩;rw [hixe] at hix ihj';rw [←hset] at ihj';have hzl:j<(Z++List.replicate (i-j) (0:Int)).length:=(List.getElem?_eq_some_iff.1 hget).1;generalize Z++List.replicate (i-j) (0:Int)=Y at hget hzl ihj';refine hC.mapGet Tryz.underlying244 (Maps.string_keyed Tryz.underlying9) (.can 0) (zero:=vI 0) (l:=metS A) hz3 (.tup [vI ix,vB true]) rfl (key_one _) (key_sign _ hsm) (.inr ⟨vI ix,metS_mem hix,rfl⟩) (by simp) ?_;refine hC.go [] 90 ?_;simp;refine hC.mapGet Tryz.underlying244 (Maps.string_keyed Tryz.underlying9) (.can 0) (zero:=vI 0) (l:=metS A) hz3 (vI ix) rfl (key_one _) (key_sign _ hsm) (.inr ⟨vI ix,metS_mem hix,rfl⟩) (by simp) ?_;refine hC.go [] 90 ?_;simp [hzl];refine hC.storeE (.can 1) (e:=3) (sz:=1) (inf:=infJ) (es:=Y.map fun z=>[.val (.int .i64 z)]) (k:=j) (f:=0) (el:=[.val (.int .i64 0)]) [.val (.int .i64 (ix:Nat))] rfl (by simp [hget]) ?_;refine hC.go [] 90 ?_;simp;exact go_to [] ihj' (by simp [hw,List.map_set,Au.cells])
    ·rw [if_neg (by simpa using hm)] at ihj';simp only at ihj';rw [←hset] at ihj';have hzl:j<(Z++List.replicate (i-j) (0:Int)).length:=(List.getElem?_eq_some_iff.1 hget).1;generalize Z++List.replicate (i-j) (0:Int)=Y at hget hzl ihj';have hnot:=metS_not qne hsn hm;refine hC.mapGet Tryz.underlying244 (Maps.string_keyed Tryz.underlying9) (.can 0) (zero:=vI 0) (l:=metS A) hz3 (.tup [vI 0,vB false]) rfl (key_one _) (key_sign _ hsm) (.inl ⟨hnot,rfl⟩) (by simp) ?_;refine hC.go [] 90 ?_;simp;refine hC.mapLen Tryz.underlying244 (k:=9) (.can 0) (l:=metS A) rfl (by simp) ?_;refine hC.go [] 90 ?_;simp;refine hC.mapPut (l:=metS A) (av:=vI A.length) Tryz.underlying244 (Maps.string_keyed Tryz.underlying9) (.can 0) (metS (A++[s])) (.inl rfl) (key_one _) (key_sign _ hsm) (.inl ⟨hnot,metS_snoc A s⟩) (by simp [metS_len]) ?_;refine hC.go [] 90 ?_;simp;refine hC.mapGet Tryz.underlying244 (Maps.string_keyed Tryz.underlying9) (.can 0) (zero:=vI 0) (l:=metS (A++[s])) hz3 (vI A.length) rfl (key_one _) (key_sign _ hsm) (.inr ⟨vI A.length,metS_mem (by simp),rfl⟩) (by simp) ?_;refine hC.go [] 90 ?_;simp [hzl];refine hC.storeE (.can 1) (e:=3) (sz:=1) (inf:=infJ) (es:=Y.map fun z=>[.val (.int .i64 z)]) (k:=j) (f:=0) (el:=[.val (.int .i64 0)]) [.val (.int .i64 (A.length:Nat))] rfl (by simp [hget]) ?_;refine hC.go [] 90 ?_;simp;exact go_to [] ihj' (by simp [hw,List.map_set,Au.cells])
  ·have hji:j=i:=(by omega);subst hji;clear ihj q1 q3 q4 q5 qne;generalize rowQ id [] (sg.map some) j=Q at r1 r2 r3 r4 r5 r6 q2 hspec;obtain ⟨A,Z⟩:=Q;simp only at r1 r2 r3 r4 r5 r6 q2 hspec;have hZb:∀c∈Z,c≤16777216:=fun c hc=>by
    obtain ⟨m,hm⟩:=List.getElem?_of_mem hc;have hml:=(List.getElem?_eq_some_iff.1 hm).1;have hms:m<sg.length:=(by omega);obtain ⟨u,hu,hul⟩:=hspec m sg[m] (by simp);rw [hm] at hu;cases hu;omega
   have hZp:=r1.pos;simp only [Nat.sub_self,List.replicate_zero,List.append_nil];refine hC.til [25] [] 90 ?_;simp;refine go_to (M:=⟨[(1,.ptr (.loc 1) 0),(2,.ptr (.loc 2) 0),(6,vI many),(7,.hmap (.can 0)),(8,.pv (ints Z))],
    [(.loc 1,some (.box 137 d.cells)),(.loc 2,some (.box 137 [nm0,nm0,nm0])),(.can 0,some (.gen (mapG Tryz.prog 9 (metS A))))]⟩) [] ?_ (by simp [Au.cells])
   refine hC.go [] 90 ?_;simp;refine hC.mapLen Tryz.underlying244 (k:=9) (.can 0) (l:=metS A) rfl (by simp) ?_;by_cases hfin:A.length=many
   ·obtain ⟨e1,e2⟩:=r5 hfin;have hres:=hleast Z e1;refine hC.go [] 90 ?_;simp [metS_len,hfin,Au.cells];refine hC.call [] (h133 Z (by omega) (fun c hc=>⟨hZp c hc,by have:=hZb c hc;omega⟩)) (by simp [Au.av,Au.cells]) ?_;rw [hres];refine hC.go [] 90 ?_;simp [Au.av,Au.cells]
   ·have hfI:¬(A.length:Int)=many:=(by omega);refine hC.go [] 90 ?_;simp [metS_len,hfin,hfI,Au.cells];refine hC.mapLen Tryz.underlying244 (k:=9) (.can 0) (l:=metS A) rfl (by simp) ?_;refine hC.go [] 90 ?_;simp [metS_len];exact go_to [] (ih ⟨(Z,A.length),r1,hZb⟩ (by simp;omega)) (by simp [Au.cells])
theorem stQ_mono (l:List Rest){w w':World}{F F':Nat→Prop}{o:Obj}(h:mapG Tryz.prog 9 (entsOf l) w F o)(h1:∀k,F k→w'.heap[k]?=w.heap[k]?)(h2:∀k,F k→F' k):mapG Tryz.prog 9 (entsOf l) w' F' o:=mapG_mono h h1 h2
theorem go_state {C:Ctx}{todo:List Item}{L:LS}(t:Nat)(S:Stt)(ht:L.get t = .pv (stV S))(h:∀l,Lists S l→Go C (.top todo (L.put (some t) (.pv (.opq (mapAt (mapG Tryz.prog 9 (entsOf l)))))))):Go C (.top todo L):=
 go_open t (Lists S) (fun l=>mapG Tryz.prog 9 (entsOf l)) (fun l=>stQ_mono l) ht h
theorem ents_split {lr:List Rest}{l1 l2:Ents}{p:Value × AV}(h:entsOf lr=l1++p::l2):∃r1 r r2,lr=r1++r::r2∧l1=entsOf r1∧p=(.string (rtext r),rV r)∧l2=entsOf r2:=by
 obtain ⟨r1,x,h1,h2,h3⟩:=List.map_eq_append_iff.1 h;obtain ⟨r,r2,h4,h5,h6⟩:=List.map_eq_cons_iff.1 h3;exact ⟨r1,r,r2,by rw [h1,h4],h2.symm,h5.symm,h6.symm⟩
theorem ents_keys {l:List Rest}(hn:l.Nodup)(ht:∀r∈l,TameR r):((entsOf l).map (·.1)).Nodup:=by
 rw [List.map_map];refine nodup_map _ l hn fun x hx y hy e=>?_;simp only [Function.comp,Value.string.injEq] at e;exact rtext_inj (ht x hx) (ht y hy) e
theorem ents_one (l:List Rest):∀p∈entsOf l,p.1.oneCell'=true:=fun p hp=>by
 obtain ⟨r,_,rfl⟩:=List.mem_map.1 hp;rfl
set_option maxRecDepth 20000 in
theorem h137 (Gl:Granted)(S:Stt)(hS:∀r,S r→TameR r)(b:Bool)(hb:b=true↔∃r,S r∧nulR r=true):Fun Tryz.prog Gl 235 [.pv (stV S)] [] (vB b) []:=by
 refine fun_of (T:=T5) (n:=13) (rs:=[.tmp 2]) Tryz.func235 (by kernel_rfl) rfl rfl rfl tok5 mixed (by simp) fun C hC=>?_;refine go_state 0 S (by simp) fun l hl=>?_;have ht:∀r∈l,TameR r:=fun r hr=>hS r ((hl.2 r).1 hr);refine hC.go [] 60 ?_;simp;refine hC.mapRange Tryz.underlying309 (l:=entsOf l) (ents_keys hl.1 ht) rfl rfl (by simp) ?_;refine hC.go [] 60 ?_;simp;refine go_loop (ι:={x:List Rest × Option (Value × AV) // (∀r∈x.1,r∈l)∧∀r∈l,r∉x.1→nulR r=false}) (fun x=>⟨[(6,.ptr (.loc 6) 0)],[(.loc 6,some (.gen (iterG Tryz.prog 9 (entsOf l) (entsOf x.1.1) x.1.2)))]⟩) (fun x=>x.1.1.length) ⟨(l,none),by simp;exact fun r h1 h2=>absurd h1 h2⟩ [] (by simp) fun x ih=>?_;obtain ⟨⟨lr,last⟩,hx1,hx2⟩:=x;simp only at hx1 hx2 ih;refine hC.go [] 60 ?_;simp;refine hC.mapNext 9 (.loc 6) (ents_one l) rfl (by simp;rfl) (fun h0=>?_) fun l1 p l2 h0=>?_
 ·have hb0:b=false:=by
   cases hbb:b with
   |false=>rfl
   |true=>
    obtain ⟨r,hr,hn⟩:=hb.1 hbb;have:lr = []:=(by simpa using h0);subst this;rw [hx2 r ((hl.2 r).2 hr) (by simp)] at hn;cases hn
  refine hC.go [] 60 ?_;simp [hb0]
 ·obtain ⟨r1,r,r2,rfl,rfl,rfl,rfl⟩:=ents_split h0;have hrl:=hx1 r (by simp);refine hC.go [] 60 ?_;simp;refine hC.mapEntry 9 (.loc 6) rfl rfl (by simp;rfl) ?_;refine hC.go [] 60 ?_;simp;refine hC.call [] (h173 Gl r (ht r hrl)) (by simp) ?_;cases hn:nulR r with
  |true=>
   have hb1:b=true:=hb.2 ⟨r,(hl.2 r).1 hrl,hn⟩;refine hC.go [] 60 ?_;simp [hb1]
  |false=>
   refine hC.go [] 60 ?_;simp;refine go_to [] (ih ⟨(r1++r2,some (.string (rtext r),rV r)),fun x hx=>hx1 x (by simp at hx ⊢;rcases hx with h|h<;>simp [h]),fun x hx hn'=>?_⟩ (by simp)) (by simp);by_cases hxr:x=r
   ·rw [hxr];exact hn
   ·exact hx2 x hx (by simp at hn' ⊢;exact ⟨hn'.1,hxr,hn'.2⟩)
open Classical in
noncomputable def addR (lo:List Rest)(x:Rest):List Rest:=if x∈lo then lo else lo++[x]
theorem addR_mem (lo:List Rest)(x y:Rest):y∈addR lo x↔y∈lo∨y=x:=by
 unfold addR;split
 ·rename_i h;exact ⟨.inl,fun q=>q.elim id fun e=>e ▸ h⟩
 ·simp
theorem addR_nodup {lo:List Rest}(h:lo.Nodup)(x:Rest):(addR lo x).Nodup:=by
 unfold addR;split
 ·exact h
 ·rename_i hx;exact List.nodup_append.2 ⟨h,by simp,fun a ha b hb=>by simp at hb;subst hb;exact fun e=>hx (e ▸ ha)⟩
theorem putG_add {lo:List Rest}(ht:∀r∈lo,TameR r){x:Rest}(hx:TameR x):putG (entsOf lo) (.string (rtext x)) (rV x) (entsOf (addR lo x)):=by
 unfold addR;split
 ·rename_i h;obtain ⟨s,t,rfl⟩:=List.append_of_mem h;exact .inr ⟨entsOf s,entsOf t,rV x,by simp,by simp⟩
 ·rename_i h;refine .inl ⟨fun p hp e=>?_,by simp⟩;obtain ⟨r,hr,rfl⟩:=List.mem_map.1 hp;simp only [Value.string.injEq] at e;exact h (rtext_inj (ht r hr) hx e ▸ hr)
theorem key_st9 (s:ByteArray)(h:s.size≤maxLen):keyOf Tryz.prog 9 (.string s)=some (.string s.data.toList):=by
 simp [keyOf,Tryz.underlying9,mapKey];exact h
set_option maxRecDepth 20000 in
set_option maxHeartbeats 2000000 in
theorem h136 (Gl:Granted)(S:Stt)(a:ByteArray)(hS:∀r,S r→TameR r)(hN:∀r,S r→∀x∈stepR a r,TameR x):Fun Tryz.prog Gl 234 [.pv (stV S),vS a] [] (.pv (stV (stepS a S))) []:=by
 refine fun_of (T:=T5) (n:=34) (rs:=[.tmp 4]) Tryz.func234 (by kernel_rfl) rfl rfl rfl tok5 mixed (by simp) fun C hC=>?_;refine go_state 0 S (by simp) fun l hl=>?_;have ht:∀r∈l,TameR r:=fun r hr=>hS r ((hl.2 r).1 hr);have hn:∀r∈l,∀x∈stepR a r,TameR x:=fun r hr=>hN r ((hl.2 r).1 hr);refine hC.go [] 60 ?_;simp;refine hC.mapMake 9 rfl rfl (by simp) ?_;refine hC.go [] 60 ?_;simp;refine hC.mapRange Tryz.underlying309 (l:=entsOf l) (ents_keys hl.1 ht) rfl rfl (by simp) ?_;refine hC.go [] 60 ?_;simp;refine go_loop (ι:={x:(List Rest × Option (Value × AV)) × List Rest // (∀r∈x.1.1,r∈l)∧x.1.1.Nodup∧x.2.Nodup∧(∀y,y∈x.2↔∃r∈l,r∉x.1.1∧y∈stepR a r)})
  (fun x=>⟨[(1,vS a),(5,.hmap (.can 0)),(13,.ptr (.loc 13) 0)],[(.can 0,some (.gen (mapG Tryz.prog 9 (entsOf x.1.2)))),(.loc 13,some (.gen (iterG Tryz.prog 9 (entsOf l) (entsOf x.1.1.1) x.1.1.2)))]⟩)
  (fun x=>x.1.1.1.length) ⟨((l,none),[]),by simp;exact ⟨hl.1,fun y r h1 h2=>absurd h1 h2⟩⟩ [(.can 0,.nm (.loc 11))] (by simp) fun x ih=>?_
 obtain ⟨⟨⟨lr,last⟩,lo⟩,hx1,hx2,hx3,hx4⟩:=x;simp only at hx1 hx2 hx3 hx4 ih;have hlt:∀y∈lo,TameR y:=fun y hy=>by
  obtain ⟨r,h1,_,h2⟩:=(hx4 y).1 hy;exact hn r h1 y h2
 refine hC.go [] 60 ?_;simp;refine hC.mapNext 9 (.loc 13) (ents_one l) rfl (by simp;rfl) (fun h0=>?_) fun l1 p l2 h0=>?_
 ·have hlr:lr = []:=by simpa using h0
  subst hlr;have hlo:Lists (stepS a S) lo:=⟨hx3,fun y=>(hx4 y).trans ⟨fun ⟨r,h1,_,h2⟩=>⟨r,(hl.2 r).1 h1,h2⟩,fun ⟨r,h1,h2⟩=>⟨r,(hl.2 r).2 h1,by simp,h2⟩⟩⟩;refine hC.til [1011] [] 60 ?_;simp;refine go_to (M:=⟨[(5,.hmap (.can 0))],[(.can 0,some (.gen (stQ (stepS a S))))]⟩) [] ?_ (by simp;exact fun w F o h=>⟨lo,hlo,h⟩);refine hC.go [] 60 ?_;simp
 ·obtain ⟨r1,r,r2,rfl,rfl,rfl,rfl⟩:=ents_split h0;have hrl:=hx1 r (by simp);have hrt:=ht r hrl;have hbeh:(E.mk 115 ⟨#[]⟩ r).beh a=stepR a r:=by rw [beh_eq];simp [E.op,E.kids,stepR]
  have hpart:Part (E.mk 115 ⟨#[]⟩ r):=⟨hrt.2,hrt.1,.inr (.inr (.inl rfl))⟩;have hcall:=h172 Gl (E.mk 115 ⟨#[]⟩ r) hpart a;have hxl:(stepR a r).length≤24*24:=by
   have h1:=beh_len a (E.mk 115 ⟨#[]⟩ r);have h2:=leaves_sum hrt.2;rw [leaves_eq,hbeh] at h1;have h3:=hrt.1;simp [E.op,E.kids] at h1;omega
  rw [hbeh] at hcall;obtain ⟨xs,hxs⟩:∃xs,stepR a r=xs:=⟨_,rfl⟩;rw [hxs] at hcall hxl;have hxt:∀x∈xs,TameR x:=by rw [←hxs];exact hn r hrl
  have hav:(E.mk 115 ⟨#[]⟩ r).av = .agg [.pv (.val (.int .u8 115)),.pv (.val (.string ⟨#[]⟩)),rV r]:=by simp [E.av,E.cells,E.op,E.name,E.kids]
  rw [hav] at hcall;refine hC.go [] 60 ?_;simp;refine hC.mapEntry 9 (.loc 13) rfl rfl (by simp;rfl) ?_;refine hC.go [] 60 ?_;simp;refine hC.call [] hcall (by simp) ?_;refine hC.go [] 60 ?_;simp;refine go_loop (ι:={x:Nat × List Rest // x.1≤xs.length∧x.2.Nodup∧(∀y,y∈x.2↔(∃s∈l,s∉r1++r::r2∧y∈stepR a s)∨y∈xs.take x.1)})
   (fun x=>⟨[(1,vS a),(5,.hmap (.can 0)),(13,.ptr (.loc 13) 0),(22,.pv (restsV xs)),(23,vI xs.length),(24,vI x.1.1)],[(.can 0,some (.gen (mapG Tryz.prog 9 (entsOf x.1.2)))),(.loc 13,some (.gen (iterG Tryz.prog 9 (entsOf l) (entsOf (r1++r2)) (some (.string (rtext r),rV r)))))]⟩)
   (fun x=>xs.length-x.1.1) ⟨(0,lo),by simp,hx3,fun y=>by simp only [List.take_zero,List.not_mem_nil,or_false];exact hx4 y⟩ [] (by simp) fun x ihj=>?_
  obtain ⟨⟨j,lo'⟩,hj,hj2,hj3⟩:=x;simp only at hj hj2 hj3 ihj;have hlt':∀y∈lo',TameR y:=fun y hy=>by
   rcases (hj3 y).1 hy with ⟨s,h1,_,h2⟩|h
   ·exact hn s h1 y h2
   ·exact hxt y (List.mem_of_mem_take h)
  by_cases hjl:j<xs.length
  ·have hw:=wr64 ((j:Int)+1) (by omega);have hxj:=hxt xs[j] (by simp);have hsz:=rtext_size hxj;refine hC.go [] 60 ?_;simp [hjl];refine hC.call [] (h134 Gl xs[j] hxj) (by simp) ?_;refine hC.go [] 60 ?_;simp;refine hC.mapPut Tryz.underlying309 (Maps.string_keyed Tryz.underlying9) (.can 0) (entsOf (addR lo' xs[j])) (.inl rfl) (key_one _) (key_st9 _ (by simp only [maxLen];omega)) (putG_add hlt' hxj) (by simp) ?_;refine hC.go [] 60 ?_;simp;refine go_to [] (ihj ⟨(j+1,addR lo' xs[j]),hjl,addR_nodup hj2 _,fun y=>?_⟩ (by simp;omega)) (by simp [hw]);rw [addR_mem,hj3 y,List.take_add_one,List.getElem?_eq_getElem hjl,List.mem_append];simp only [Option.toList_some,List.mem_singleton,or_assoc]
  ·have htk:xs.take j=xs:=List.take_of_length_le (by omega);rw [htk] at hj3;refine hC.go [] 60 ?_;simp [hjl];refine go_to [] (ih ⟨((r1++r2,some (.string (rtext r),rV r)),lo'),fun x hx=>hx1 x (by simp at hx ⊢;rcases hx with h|h<;>simp [h]),?_,hj2,fun y=>?_⟩ (by simp)) (by simp)
   ·exact (List.nodup_cons.1 (List.perm_middle.nodup_iff.1 hx2)).2
   ·have hrn:r∉r1++r2:=(List.nodup_cons.1 (List.perm_middle.nodup_iff.1 hx2)).1;rw [hj3 y,←hxs];constructor
    ·rintro (⟨s,h1,h2,h3⟩|h)
     ·exact ⟨s,h1,fun q=>h2 (by simp at q ⊢;rcases q with q|q<;>simp [q]),h3⟩
     ·exact ⟨r,hrl,hrn,h⟩
    ·rintro ⟨s,h1,h2,h3⟩
     by_cases hsr:s=r
     ·exact .inr (hsr ▸ h3)
     ·exact .inl ⟨s,h1,fun q=>h2 (by simp at q ⊢;rcases q with q|q|q;exact .inl q;exact absurd q hsr;exact .inr q),h3⟩
open Go.RowKit Go.Sort Go.Maps
theorem h171 (Gl:Granted)(l:List Rest):Fun Tryz.prog Gl 267 [.pv (.opq (mapAt (mapG Tryz.prog 9 (entsOf l))))] [] (.opq (KSt l)) []:=by
 refine ⟨⟨_,Tryz.func267,by kernel_rfl,rfl⟩,fun w0 F0 hd0 cargs hg hl hlen hr=>?_⟩;have hd:=dead_hd hl;subst hd
 match cargs,hlen with
 |[c],_=>
  have h0:=hr 0 _ c rfl rfl;cases h0 with
  |pv _ _ hp=>cases hp with
   |opq _ _ h1 hQ=>
    obtain ⟨b,o,rfl,hF,ho,hq⟩:=hQ w0 F0 (fun _ _=>rfl) (fun _ h=>h);refine (callsIn_wide.1 (AnyZ.keys_in (ρ:=Tryz.keys171_ren) Tryz.keys171 Fence.wide 0 trivial rfl (some b) w0)).mono fun e w' ⟨he,hw⟩=>?_;subst hw;have hbl:=hl.fin b hF;have hold:∀k,k<w0.heap.size→(w0.alloc (.cells #[.map (some b)] 309)).heap[k]?=w0.heap[k]?:=fun k hk=>Below.heap_alloc _ _ _ hk;have hsz:(w0.alloc (.cells #[.map (some b)] 309)).heap.size=w0.heap.size+1:=(by simp);refine ⟨_,fun k=>F0 k∨k=w0.heap.size,fun _=>.dead,he,.opq _ _ rfl fun w2 F2 h1 h2=>?_,⟨fun k hk=>?_,fun r s k _ h=>h.elim,fun r k h=>h.elim,fun r=>rfl⟩,
     ⟨fun r k h=>h.elim,fun k hk=>?_,fun k hk=>.inl hk,fun i=>.inl rfl,rfl,rfl,rfl,by show w0.heap.size≤(w0.alloc (.cells #[.map (some b)] 309)).heap.size;rw [hsz];omega,fun k hk _=>hold k hk⟩⟩
    ·refine KSt.mono (w:=w0.alloc (.cells #[.map (some b)] 309)) (F:=fun k=>F0 k∨k=w0.heap.size) ⟨w0.heap.size,b,o,rfl,.inr rfl,heap_alloc_new w0 _,.inl hF,(hold b hbl).trans ho,mapG_mono hq (fun k hk=>hold k (hl.fin k hk)) (fun k hk=>.inl hk)⟩ h1 h2
    ·show k<(w0.alloc (.cells #[.map (some b)] 309)).heap.size;rw [hsz];rcases hk with hk|rfl
     ·have:=hl.fin k hk;omega
     ·omega
    ·rcases hk with hk|rfl
     ·exact .inl hk
     ·exact .inr (.inl (Nat.le_refl _))
theorem gives_state {l:List Rest}(hl:l.length≤1000000){w:World}{F:Nat→Prop}{v:Value}(hF:∀k,F k→k<w.heap.size)(h:KSt l w F v):GivesQ (l.map rtext) w v:=by
 obtain ⟨kb,b,o,rfl,hkb,hcell,hb,ho,hq⟩:=h;obtain ⟨D,hown,hsz,hperm⟩:=mapG_owns Tryz.underlying9 hq ho (by rw [List.length_map];simp only [maxLen];omega);refine ⟨288,#[.pointer (some ⟨kb,0,none⟩)],rfl,enters_of Tryz.func288 (by kernel_rfl) rfl,?_⟩;have hs:=AnyZ.keys_gives (ρ:=Tryz.keys171_ren) { Tryz.keys171 with } Fence.wide 2 trivial rfl (by omega) kb b (entsOf l).length D w (hF kb hkb) (by simp [World.cell?,hcell]) hown;rw [hsz] at hs;have hp:(strKeys D).Perm ((l.map rtext).map (·.data.toList)):=by
  have h2:=hperm.map fun v:Value=>match v with
   |.string s=>s.data.toList
   |_=>[]
  simp only [List.map_map,Function.comp_def] at h2 ⊢;simpa using h2
 have hlen:(entsOf l).length=(l.map rtext).length:=by simp
 rw [hlen] at hs;intro lo J W h1 h2 h3 h4;refine (hs lo J W h1 h2 h3 h4).mono ?_
 rintro e W' ⟨h5,xs,h6,h7⟩
 exact ⟨h5,xs,h6.trans hp,h7⟩
set_option maxRecDepth 20000 in
theorem h135 (Gl:Granted)(S:Stt)(hS:∀r,S r→TameR r)(hN:∀l,Lists S l→l.length≤1000):Fun Tryz.prog Gl 233 [.pv (stV S)] [] (vS (skey S)) []:=by
 refine fun_of (T:=T5) (n:=7) (rs:=[.tmp 2]) Tryz.func233 (by kernel_rfl) rfl rfl rfl tok5 mixed (by simp) fun C hC=>?_;refine go_state 0 S (by simp) fun l hl=>?_;have ht:∀r∈l,TameR r:=fun r hr=>hS r ((hl.2 r).1 hr);have hll:=hN l hl;have hk:skey S=joinB (sortB (l.map rtext)) ⟨#[59]⟩:=skey_eq hl;have hsz:(joinB (sortB (l.map rtext)) ⟨#[59]⟩).size≤140737488355328:=by
  refine Nat.le_trans (join_size _ _) ?_;have e59:(⟨#[59]⟩:ByteArray).size=1:=rfl;have hb:∀x∈sortB (l.map rtext),x.size≤10000:=fun x hx=>by
   rw [sortB_mem] at hx;obtain ⟨r,hr,rfl⟩:=List.mem_map.1 hx;exact rtext_size (ht r hr)
  have hlen:(sortB (l.map rtext)).length≤1000:=by rw [sortB_len];simpa using hll
  have key:∀m:List ByteArray,(∀x∈m,x.size≤10000)→(m.map fun x=>x.size+(⟨#[59]⟩:ByteArray).size).sum≤10001*m.length:=by
   intro m;induction m with
   |nil=>simp
   |cons x m ih=>
    intro hm;have h1:=ih fun y hy=>hm y (by simp [hy]);have h2:=hm x (by simp);simp only [List.map_cons,List.sum_cons,List.length_cons,e59] at h1 ⊢;omega
  have:=key _ hb;omega
 have hcall:=h48it Gl (l.map rtext) (by rw [List.length_map];omega) (KSt l) (fun w F v hF h=>gives_state (by omega) hF h);have hlen:(sortB (l.map rtext)).length≤1000:=by rw [sortB_len];simpa using hll
 rw [hk] at hC;generalize sortB (l.map rtext)=ts at *;refine hC.go [] 60 ?_;simp;refine hC.call [] (h171 Gl l) (by simp) ?_;refine hC.go [] 60 ?_;simp;refine hC.call [] hcall (by simp) ?_;refine hC.go [] 60 ?_;simp;refine hC.call [] (f39 Gl ts ⟨#[59]⟩ (by omega) hsz) (by simp) ?_;refine hC.go [] 60 ?_;simp
end Go.Proofs.D
namespace Go.Proofs.D
open Go Go.Abs Go.RowKit Go.Sort Go.Shelf
theorem h48o (Gl:Granted)(l:List ByteArray)(hl:l.length≤1000000000):FunO Tryz.prog Gl 172 [.opq (VQ l)] [] (.own (.out 0)) [] [.row 9 1 ((sortB l).map fun s=>[.val (.string s)])]:=by
 refine funO_row ⟨_,Tryz.func172,by kernel_rfl,rfl⟩ (by simp) fun w F cargs hF hlen hr=>?_
 match cargs,hlen with
 |[c],_=>
  have hc:=hr 0 _ c rfl rfl;cases hc with
  |opq _ _ h1 hK=>
   obtain ⟨kb,A,cap,rfl,hkb,hcell,hrow⟩:=hK w F (fun _ _=>rfl) (fun _ h=>h);refine (callsIn_wide.1 (sortedVals kb w.heap.size l hl w (Nat.le_refl _) ⟨A,cap,by simp [World.cell?,hcell],hF kb hkb,fun hne=>?_⟩)).mono ?_
   ·obtain ⟨b,off,e,hb,hcs⟩:=hrow hne;exact ⟨b,off,e,hF b hb,hcs⟩
   ·rintro e w' ⟨v,he,hrow',hb⟩
    refine ⟨v,_,he,by rw [List.length_map,sortB_len];exact hrow',fun i j el c u h1 h2 h3=>?_,fun v hv=>?_,hb⟩
    ·rw [List.getElem?_map] at h1;cases hx:(sortB l)[i]? with
     |none=>rw [hx] at h1;cases h1
     |some x=>
      rw [hx] at h1;cases h1
      match j,h2 with
      |0,h2=>
       simp at h2;subst h2;simp only [sortB,List.getElem?_map] at hx;rw [List.getElem?_map] at h3;simp only [Nat.mul_one,Nat.add_zero] at h3;cases hy:((l.map (·.data.toList)).mergeSort fun x y=>decide (x≤y))[i]? with
       |none=>rw [hy] at hx;cases hx
       |some y=>
        rw [hy] at hx h3;cases hx;cases h3;exact .val _ rfl
    ·obtain ⟨x,_,rfl⟩:=List.mem_map.1 hv;rfl
def cpB (m:List ByteArray):List ByteArray:=(Lib.compact (m.map (·.data.toList))).map fun l=>⟨l.toArray⟩
section
variable (d:Array (List UInt8))
theorem comp_step (hs:∀i j,i<j→j<d.size→d[i]!≤d[j]!):∀m,m≤d.size→(Lib.compactUpTo d m).Pairwise (· < ·)∧(∀x,x∈Lib.compactUpTo d m↔∃i,i<m∧d[i]! = x)∧∀x∈Lib.compactUpTo d m,x≤d[m-1]!:=by
 intro m;induction m with
 |zero=>intro _;simp [Lib.compactUpTo]
 |succ m ih=>
  intro hm;obtain ⟨h1,h2,h3⟩:=ih (by omega);rw [Lib.compactUpTo_succ];by_cases h0:m=0
  ·subst h0;have:Lib.compactUpTo d 0 = []:=(by simp [Lib.compactUpTo]);rw [this];simp [Lib.keeps];exact fun x=>eq_comm
  ·have hle:d[m-1]!≤d[m]!:=hs (m-1) m (by omega) (by omega);by_cases hk:d[m]! = d[m-1]!
   ·rw [Lib.keeps_neg (by omega) hk];simp only [Bool.false_eq_true,if_false,List.append_nil,Nat.add_sub_cancel];refine ⟨h1,fun x=>?_,fun x hx=>List.le_trans (h3 x hx) hle⟩;rw [h2 x];constructor
    ·rintro ⟨i,hi,e⟩;exact ⟨i,by omega,e⟩
    ·rintro ⟨i,hi,e⟩
     by_cases him:i=m
     ·subst him;exact ⟨i-1,by omega,by rw [←hk];exact e⟩
     ·exact ⟨i,by omega,e⟩
   ·rw [Lib.keeps_pos hk];simp only [if_true,Nat.add_sub_cancel];have hlt:d[m-1]! < d[m]!:=by
     rcases List.le_iff_lt_or_eq.1 hle with h|h
     ·exact h
     ·exact absurd h.symm hk
    refine ⟨List.pairwise_append.2 ⟨h1,by simp,fun x hx y hy=>?_⟩,fun x=>?_,fun x hx=>?_⟩
    ·simp at hy;subst hy;exact List.lt_of_le_of_lt (h3 x hx) hlt
    ·rw [List.mem_append,h2 x];simp only [List.mem_singleton];constructor
     ·rintro (⟨i,hi,e⟩|e)
      ·exact ⟨i,by omega,e⟩
      ·exact ⟨m,by omega,e.symm⟩
     ·rintro ⟨i,hi,e⟩
      by_cases him:i=m
      ·subst him;exact .inr e.symm
      ·exact .inl ⟨i,by omega,e⟩
    ·rcases List.mem_append.1 hx with hx|hx
     ·exact List.le_trans (h3 x hx) hle
     ·simp at hx;subst hx;exact List.le_refl _
end
abbrev tB (l:List ByteArray):Blk:=.row 9 1 (l.map fun s=>[.val (.string s)])
abbrev bL (l:List ByteArray):List (List UInt8):=l.map (·.data.toList)
theorem cpB_len (l:List ByteArray):(cpB l).length≤l.length:=by
 unfold cpB Lib.compact Lib.compactUpTo;rw [List.length_map,List.length_map];exact Nat.le_trans (List.length_filter_le _ _) (by simp)
set_option maxRecDepth 20000 in
set_option maxHeartbeats 2000000 in
theorem h97 (Gl:Granted)(l:List ByteArray)(hl:l.length≤1000000000):Fun Tryz.prog Gl 182 [.own (.arg 0)] [some (tB l)] (.pv (namesV (cpB l))) [none]:=by
 refine ⟨⟨_,Tryz.func182,by kernel_rfl,rfl⟩,fun w F hd cargs hG hL hlen hr=>?_⟩
 match cargs,hlen with
 |[c],_=>
  have hc:=hr 0 _ c rfl rfl;have hb:=hL.holds (.arg 0);have hlk:lkH (keyed 0 [some (tB l)]) (.arg 0)=some (tB l):=by simp [keyed,lkH]
  rw [hlk] at hb;obtain ⟨v,cells,hv,hrow,hel,hrep,hone⟩:=hb;have hcv:c=v:=by
   cases hc with
   |own _ _ _ hx=>exact hx v hv
  subst hcv;have hcl:=cpB_len l;have hzl:(Lib.compact (bL l)).length=(cpB l).length:=by simp [cpB]
  have hpost:∀r,HoldB w F (fun _=>Hd.dead) r (lkH (keyed 0 [none]) r):=fun r=>by
   have:lkH (keyed 0 [none]) r=none:=by
    simp only [keyed,lkH];split<;>rfl
   rw [this];exact rfl
  have h0:∀(A:Option Addr) (cap:Nat),(A=none→cap=0)→l = []→c = .slice A 0 cap→Calls Tryz.prog 182 [c].toArray w (ownR w F hd (keyed 0 [none]) (.pv (namesV (cpB l)))):=fun A cap hA e e2=>by
   subst e e2;refine (Tryz.slices_Compact_string_empty A cap w).mono ?_
   rintro e w' ⟨rfl,rfl⟩
   refine ⟨_,F,fun _=>.dead,rfl,.pv _ _ (.ro 1 [] A cap (fun _ _=>undef) hA (Nat.zero_le _) (by decide) (by simp) (by simp) (by simp)),⟨hL.fin,fun r s k _ h=>h.elim,fun r k h=>h.elim,hpost⟩,
    ⟨fun r k h=>h.elim,fun k hk=>.inl hk,fun k hk=>hk,fun i=>.inr rfl,rfl,rfl,rfl,Nat.le_refl _,fun k _ _=>rfl⟩⟩
  by_cases hl0:l = []
  ·rcases hrow.2 with ⟨rfl,_⟩|⟨g,cap,cur,rfl,_⟩
   ·exact h0 none 0 (fun _=>rfl) hl0 rfl
   ·subst hl0;exact h0 (some ⟨g,0,none⟩) cap (fun e=>by cases e) rfl rfl
  ·rcases hrow.2 with ⟨rfl,hn⟩|⟨g,cap,cur,rfl,_,hg,hcap,hmax,hsz,hcur⟩
   ·exact absurd (List.eq_nil_of_length_eq_zero (by simpa using hn)) hl0
   ·rw [List.length_map] at hcap hcur;rw [Nat.mul_one] at hsz hcur;have hgl:g<w.heap.size:=(Array.getElem?_eq_some_iff.1 hg).1;have hown:(hd (.arg 0)).owns g:=(by rw [hv];rfl);have hH:Holds encStr w g 0 (bL l).toArray:=fun j hj=>by
     have hj':j<l.length:=(by simpa using hj);have h1:cur[j]?=some (.string l[j]):=by
      have hu:cells[j]?=cur[j]?:=(by rw [←hcur,List.getElem?_take_of_lt hj',Array.getElem?_toList]);have hjc:j<cur.size:=(by omega);rw [Array.getElem?_eq_getElem hjc] at hu ⊢;have:=hrep j 0 _ _ cur[j] (by rw [List.getElem?_map,List.getElem?_eq_getElem hj'];rfl) rfl (by simpa using hu);generalize cur[j]=u at this;cases this with
      |val _ _=>rfl
     refine ⟨?_,by simp [World.frozen?,hg]⟩;simp only [World.cell?,hg,Nat.zero_add];rw [h1];simp [encStr,hj']
    rw [List.length_map];have hcc:=Tryz.slices_Compact_string g 0 cap (bL l) w hH (by simp;omega) (by simpa using hcap);rw [List.length_map] at hcc;refine hcc.mono ?_
    rintro e w' ⟨rfl,q,rfl⟩
    rw [hzl];have hheap:∀k,k≠g→(putRow encStr (Sort.ahead w q) g 0 (Lib.compact (bL l)++List.replicate (l.length-(cpB l).length) []).toArray).heap[k]?=w.heap[k]?:=fun k hk=>by
     simp only [putRow,mapBlock,Array.getElem?_modify,Sort.ahead];rw [if_neg (fun e=>hk e.symm)]
    have hcell:∀i,i<(cpB l).length→(putRow encStr (Sort.ahead w q) g 0 (Lib.compact (bL l)++List.replicate (l.length-(cpB l).length) []).toArray).cell? ⟨g,0+i,none⟩=some (.string (cpB l)[i]!):=fun i hi=>by
     rw [cell?_putRow encStr (Sort.ahead w q) g 0 (bL l).toArray _ hH (by simp [hzl];omega) i (by simp [hzl];omega)];have hi':i<(Lib.compact (bL l)).length:=(by omega);simp [hi',cpB,encStr,List.getElem?_append_left]
    refine ⟨_,fun k=>F k∨k=g,fun _=>.dead,rfl,.pv _ _ (by
     have:=RepP.ro (w:=putRow encStr (Sort.ahead w q) g 0 (Lib.compact (bL l)++List.replicate (l.length-(cpB l).length) []).toArray) (F:=fun k=>F k∨k=g) 1 ((cpB l).map fun s=>[PV.val (.string s)]) (some ⟨g,0,none⟩) cap (fun i _=>.string (cpB l)[i]!) (fun e=>by cases e) (by rw [List.length_map];omega) (by rw [List.length_map];omega)
      (fun i el hi=>by obtain ⟨_,_,rfl⟩:=List.mem_map.1 (List.mem_of_getElem? hi);rfl) (fun _=>⟨_,rfl,rfl,.inr rfl,fun i j el c h1 h2=>by
        rw [List.getElem?_map] at h1;cases hx:(cpB l)[i]? with
        |none=>rw [hx] at h1;cases h1
        |some x=>
         rw [hx] at h1;cases h1;have hil:=(List.getElem?_eq_some_iff.1 hx).1
         match j,h2 with
         |0,_=>have h:=hcell i hil;rw [Nat.zero_add] at h;show _=_;simp only [Addr.add,Nat.mul_one,Nat.add_zero,Nat.zero_add];split;(· rename_i e;subst e;exact h);exact h⟩) (fun i j el c h1 h2=>by
        rw [List.getElem?_map] at h1;cases hx:(cpB l)[i]? with
        |none=>rw [hx] at h1;cases h1
        |some x=>
         rw [hx] at h1;cases h1
         match j,h2 with
         |0,h2=>
          simp at h2;subst h2;rw [List.getElem!_eq_getElem?_getD,hx];exact .val _ rfl)
     rw [List.length_map] at this;exact this),⟨fun k hk=>?_,fun r s k _ h=>h.elim,fun r k h=>h.elim,fun r=>?_⟩,
     ⟨fun r k h=>h.elim,fun k hk=>?_,fun k hk=>.inl hk,fun i=>.inr rfl,rfl,rfl,rfl,?_,fun k hk hn=>hheap k fun e=>hn ⟨_,e ▸ hown⟩⟩⟩
    ·simp only [size_putRow,heap_ahead];rcases hk with h|h
     ·exact hL.fin k h
     ·omega
    ·have:lkH (keyed 0 [none]) r=none:=by
      simp only [keyed,lkH];split<;>rfl
     rw [this];exact rfl
    ·rcases hk with h|h
     ·exact .inl h
     ·exact .inr (.inr ⟨_,h ▸ hown⟩)
    ·simp
theorem names_ok (l:List ByteArray):(cpB (sortB l)).Pairwise blt∧∀x,x∈cpB (sortB l)↔x∈l:=by
 obtain ⟨m,hm⟩:∃m,((bL l).mergeSort fun x y=>decide (x≤y))=m:=⟨_,rfl⟩;have hb:bL (sortB l)=m:=by simp [bL,sortB,←hm,Function.comp_def]
 have hp:m.Pairwise (·≤·):=by
  rw [←hm];refine (List.pairwise_mergeSort (fun a b c h1 h2=>?_) (fun a b=>?_) _).imp fun {a b} h=>by simpa using h
  ·simp only [decide_eq_true_eq] at h1 h2 ⊢;exact List.le_trans h1 h2
  ·rcases List.le_total a b with h|h<;>simp [h]
 have hperm:m.Perm (bL l):=by rw [←hm];exact List.mergeSort_perm _ _
 have hs:∀i j,i<j→j<m.toArray.size→m.toArray[i]!≤m.toArray[j]!:=fun i j hij hj=>by
  have hj':j<m.length:=by simpa using hj
  have hi':i<m.length:=by omega
  have:=List.pairwise_iff_getElem.1 hp i j hi' hj' hij;simpa [hi',hj'] using this
 obtain ⟨h1,h2,_⟩:=comp_step m.toArray hs m.length (by simp);have hc:cpB (sortB l)=(Lib.compactUpTo m.toArray m.length).map fun l=>⟨l.toArray⟩:=by
  unfold cpB Lib.compact;rw [show (sortB l).map (·.data.toList)=m from hb]
 rw [hc];refine ⟨?_,fun x=>?_⟩
 ·rw [List.pairwise_map];exact h1.imp fun {a b} h=>by simpa [blt] using h
 ·have hx:x∈l↔x.data.toList∈m:=by
   rw [hperm.mem_iff];constructor
   ·exact fun h=>List.mem_map.2 ⟨x,h,rfl⟩
   ·intro h;obtain ⟨y,hy,e⟩:=List.mem_map.1 h
    rwa [←ByteArray.ext (Array.toList_inj.1 e)]
  rw [hx,List.mem_map];constructor
  ·rintro ⟨y,hy,rfl⟩
   obtain ⟨i,hi,e⟩:=(h2 y).1 hy;simp only [List.toList_toArray];rw [←e];simp [hi]
  ·intro h;obtain ⟨i,hi,e⟩:=List.getElem_of_mem h;exact ⟨_,(h2 x.data.toList).2 ⟨i,hi,by simp [hi,e]⟩,by simp⟩
theorem h142 (Gl:Granted)(k n:Nat)(hn:n≤100000000000):FunO Tryz.prog Gl 237 [.pv (.nilS k),vI n] [] (.own (.out 0)) [] [.row 9 1 []]:=
 grow_nil Tryz.grow142 (T:=T5) tok5 rfl (by decide) Gl 237 rfl 9 rfl ⟨_,Tryz.func237,by kernel_rfl,rfl⟩ k n hn
abbrev nrowsV (l:List Row):PV:=.ro 1 (l.map fun r=>[namesV r])
set_option maxRecDepth 20000 in
theorem h101 (Gl:Granted)(r:Row)(hr:r.length≤8000000000000):FunO Tryz.prog Gl 81 [.pv (namesV r)] [] (.own (.out 0)) [] [tB r]:=by
 refine funO_of (T:=T5) (n:=8) (rs:=[.tmp 2]) Tryz.func81 (by kernel_rfl) rfl rfl rfl tok5 mixed (by simp) fun C hC=>?_;refine hC.go [5] 60 ?_;simp;refine hC.isNil Tryz.underlying23 rfl (by simp;exact ⟨rfl,rfl⟩) fun b hb=>?_;cases b with
 |true=>
  have hr0:r = []:=Classical.byContradiction fun h=>absurd (hb (by simpa using h)) (by decide);subst hr0;refine hC.til [2] [5] 60 ?_;simp;refine hC.go [5] 3 ?_;simp;refine go_to (M:=⟨[(2,.own (.out 0))],[(.out 0,some (tB []))]⟩) [(.out 0,.nil)] ?_ (by simp);refine hC.go [] 60 ?_;simp
 |false=>
  refine hC.til [3] [5] 60 ?_;simp;refine hC.go [5] 6 ?_;simp;refine ⟨by omega,?_⟩;refine go_to (M:=⟨[(2,.own (.out 0))],[(.out 0,some (tB r))]⟩) [(.out 0,.nm (.loc 7))] ?_ (by simp);refine hC.go [] 60 ?_;simp
def flatR (l:List Row)(i:Nat):Nat:=(l.take i).flatten.length
theorem flatR_take {l:List Row}{i:Nat}(h:i<l.length):(l.take (i+1)).flatten=(l.take i).flatten++l[i]:=by
 rw [List.take_add_one,List.getElem?_eq_getElem h];simp only [Option.toList_some,List.flatten_append,List.flatten_cons,List.flatten_nil,List.append_nil]
theorem flatR_succ {l:List Row}{i:Nat}(h:i<l.length):flatR l (i+1)=flatR l i+l[i].length:=by
 unfold flatR;rw [flatR_take h,List.length_append]
theorem flatR_le (l:List Row)(i:Nat):flatR l i≤l.flatten.length:=by
 have:=congrArg List.length (congrArg List.flatten (List.take_append_drop i l));rw [List.flatten_append,List.length_append] at this;unfold flatR;omega
set_option maxRecDepth 20000 in
theorem h99 (Gl:Granted)(l:List Row)(hl:l.length≤1000000)(hs:l.flatten.length≤1000000):Fun Tryz.prog Gl 184 [.pv (nrowsV l)] [] (.pv (namesV l.flatten)) []:=by
 refine fun_of (T:=T5) (n:=36) (rs:=[.tmp 2]) Tryz.func184 (by kernel_rfl) rfl rfl rfl tok5 mixed (by simp) fun C hC=>?_;refine hC.go [] 60 ?_;simp;refine go_loop (ι:={i:Nat // i≤l.length}) (fun i=>⟨[(0,.pv (nrowsV l)),(3,vI (flatR l i.1)),(9,.pv (nrowsV l)),(10,vI l.length),(11,vI i.1)],[]⟩) (fun i=>l.length-i.1) ⟨0,by simp⟩ [] (by simp [flatR]) fun x ih=>?_;obtain ⟨i,hi⟩:=x;simp only at hi ih;have hfl:=flatR_le l i;by_cases hlt:i<l.length
 ·have hw:=wr64 ((i:Int)+1) (by omega);have hft:=flatR_succ hlt;have hfl1:=flatR_le l (i+1);have hw2:=wr64 ((flatR l i:Int)+(l[i].length:Int)) (by omega);have hneg:¬((flatR l i:Int)+(l[i].length:Int))<0:=by omega
  have hlen:(flatR l (i+1):Int)=(flatR l i:Int)+(l[i].length:Int):=by omega
  refine hC.go [] 60 ?_;simp [hlt,hw2,hneg];exact go_to [] (ih ⟨i+1,hlt⟩ (by simp;omega)) (by simp [hw,hlen])
 ·have e0:flatR l i=l.flatten.length:=by unfold flatR;rw [List.take_of_length_le (by omega)]
  rw [e0];generalize hN:l.flatten.length=N at hs;refine hC.go [] 60 ?_;simp [hlt];refine hC.callO [] [.can 0] (h142 Gl 0 N (by omega)) (by simp) ?_;refine hC.go [] 60 ?_;simp;refine go_loop (ι:={i:Nat // i≤l.length}) (fun i=>⟨[(0,.pv (nrowsV l)),(6,.own (.can 0)),(25,.pv (nrowsV l)),(26,vI l.length),(27,vI i.1)],[(.can 0,some (tB (l.take i.1).flatten))]⟩) (fun i=>l.length-i.1) ⟨0,by simp⟩ [] (by simp) fun x ih=>?_;obtain ⟨i,hi⟩:=x;simp only at hi ih;have hfl:=flatR_le l i;obtain ⟨m,hm⟩:∃m,(l.take i).flatten=m:=⟨_,rfl⟩;have hml:m.length=flatR l i:=by rw [←hm];rfl
  dsimp only;rw [hm];by_cases hlt:i<l.length
  ·have hw:=wr64 ((i:Int)+1) (by omega);have hft:=flatR_take hlt;rw [hm] at hft;have hfn:=flatR_succ hlt;have hfl1:=flatR_le l (i+1);refine hC.go [] 60 ?_;simp [hlt];refine ⟨by omega,?_⟩;exact go_to [(.can 0,.nm (.loc 33))] (ih ⟨i+1,hlt⟩ (by simp;omega)) (by simp [hw,hft])
  ·have e1:m=l.flatten:=by rw [←hm,List.take_of_length_le (by omega)]
   rw [←e1] at hC;refine hC.go [] 60 ?_;simp [hlt]
end Go.Proofs.D
namespace Go.Proofs.D
open Go Go.Abs Go.RowKit
def pairK (p:Int × Int):Value:=.agg #[.int .i64 p.1,.int .i64 p.2]
def small64 (a:Int):Prop:=-9223372036854775808≤a∧a≤9223372036854775807
theorem wf64 {a:Int}(h:small64 a):(Lit.int .i64 a).wf=true:=by
 obtain ⟨h1,h2⟩:=h;have e1:IntKind.min .i64 = -9223372036854775808:=by decide
 have e2:IntKind.max .i64=9223372036854775807:=by decide
 simp only [Lit.wf,e1,e2,Bool.and_eq_true,decide_eq_true_eq];exact ⟨h1,h2⟩
theorem keyT:Tryz.prog.keyType 262=true:=by kernel_rfl
theorem key174 {p:Int × Int}(h1:small64 p.1)(h2:small64 p.2):∃kl,keyOf Tryz.prog 262 (pairK p)=some kl:=by
 have hl:Tryz.prog.keyLits (Tryz.prog.types.size+1) 262 [.int .i64 p.1,.int .i64 p.2]=some [.int .i64 p.1,.int .i64 p.2]:=by
  obtain ⟨n,hn⟩:∃n,Tryz.prog.types.size+1=n+2:=⟨Tryz.prog.types.size-1,by kernel_rfl⟩;rw [hn];have e3:∀(m:Nat) (a:Int),small64 a→Tryz.prog.keyLits (m+1) 3 [.int .i64 a]=some [.int .i64 a]:=fun m a ha=>by
   simp [Program.keyLits,Tryz.underlying3,wf64 ha]
  have c3:Tryz.prog.cellsOf 3=1:=by kernel_rfl
  have c174:Tryz.prog.cellsOf 262=2:=by kernel_rfl
  simp [Program.keyLits,Tryz.underlying262,Tryz.underlying3,c174,c3,wf64 h1,wf64 h2]
 unfold keyOf pairK;rw [Tryz.underlying262];have hf:(Value.agg #[.int .i64 p.1,.int .i64 p.2]).formed Tryz.prog 262=true:=by
  simp only [Value.formed,Tryz.underlying262];rw [show Tryz.prog.cellsOf 262=2 by kernel_rfl];rfl
 dsimp only;rw [if_pos (by rw [keyT,hf];rfl),show (Value.agg #[.int .i64 p.1,.int .i64 p.2]).cells.toList = [.int .i64 p.1,.int .i64 p.2] from rfl,hl];exact ⟨_,rfl⟩
theorem pairK_inj {p q:Int × Int}(h:pairK p=pairK q):p=q:=by
 obtain ⟨a,b⟩:=p;obtain ⟨c,d⟩:=q;simp [pairK] at h;rw [h.1,h.2]
theorem keyed174:Maps.Keyed Tryz.prog 262:=.of_law (deep_law_laid (m:=5) (by kernel_rfl) (by omega) (of_decide_eq_true (by kernel_rfl)) (by kernel_rfl) (by rw [Tryz.underlying262]))
end Go.Proofs.D
