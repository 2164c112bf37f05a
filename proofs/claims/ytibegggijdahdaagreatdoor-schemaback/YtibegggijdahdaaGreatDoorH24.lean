/-
  TEXTS OF TWO ROWS IN ORDER, each once (slices.Concat, Sorted, Compact); a row cloned.
-/
import Derived.Test.YtibegggijdahdaaGreatDoorZ5
import Derived.Test.YtibegggijdahdaaGreatDoorH15
import Derived.Test.YtibegggijdahdaaGreatDoorH8
import Derived.Test.YtibegggijdahdaaGreatDoorL6
import Derived.Test.YtibegggijdahdaaGreatDoorG12
import Derived.Test.YtibegggijdahdaaGreatDoorAbsMB
import Derived.DeepKeys4
import Derived.Test.YtibegggijdahdaaGreatDoorG3
set_option linter.unusedVariables false
set_option linter.unusedSimpArgs false
namespace Go.Proofs.D
open Go Go.Abs Go.RowKit Go.Sort Go.Shelf
theorem h48o (Gl:Granted)(l:List ByteArray)(hl:l.length≤1000000000):FunO Tryz.prog Gl 79 [.opq (VQ l)] [] (.own (.out 0)) [] [.row 9 1 ((sortB l).map fun s=>[.val (.string s)])]:=by
 refine funO_row ⟨_,Tryz.func79,by kernel_rfl,rfl⟩ (by simp) fun w F cargs hF hlen hr=>?_
 match cargs,hlen with
 |[c],_=>
  have hc:=hr 0 _ c rfl rfl;cases hc with
  |opq _ _ h1 hK=>
   obtain ⟨kb,A,cap,rfl,hkb,hcell,hrow⟩:=hK w F (fun _ _=>rfl) (fun _ h=>h);refine (callsIn_wide.1 (sortedVals kb w.heap.size l hl w (Nat.le_refl _) ⟨A,cap,by simp [World.cell?,hcell],hF kb hkb,fun hne=>?_⟩)).mono ?_
   ·obtain ⟨b,off,e,hb,hcs⟩:=hrow hne;exact ⟨b,off,e,hF b hb,hcs⟩
   ·rintro e w' ⟨v,he,hrow',hb⟩
    refine ⟨v,_,he,by rw [List.length_map,sortB_len];exact hrow',fun i j el c u h1 h2 h3=>?_,fun v hv=>?_,hb⟩
    ·rw [List.getElem?_map] at h1;cases hx:(sortB l)[i]? with
     |none=>rw [hx] at h1;cases h1
     |some x=>
      rw [hx] at h1;cases h1
      match j,h2 with
      |0,h2=>
       simp at h2;subst h2;simp only [sortB,List.getElem?_map] at hx;rw [List.getElem?_map] at h3;simp only [Nat.mul_one,Nat.add_zero] at h3;cases hy:((l.map (·.data.toList)).mergeSort fun x y=>decide (x≤y))[i]? with
       |none=>rw [hy] at hx;cases hx
       |some y=>
        rw [hy] at hx h3;cases hx;cases h3;exact .val _ rfl
    ·obtain ⟨x,_,rfl⟩:=List.mem_map.1 hv;rfl
def cpB (m:List ByteArray):List ByteArray:=(Lib.compact (m.map (·.data.toList))).map fun l=>⟨l.toArray⟩
section
variable (d:Array (List UInt8))
theorem comp_step (hs:∀i j,i<j→j<d.size→d[i]!≤d[j]!):∀m,m≤d.size→(Lib.compactUpTo d m).Pairwise (· < ·)∧(∀x,x∈Lib.compactUpTo d m↔∃i,i<m∧d[i]! = x)∧∀x∈Lib.compactUpTo d m,x≤d[m-1]!:=by
 intro m;induction m with
 |zero=>intro _;simp [Lib.compactUpTo]
 |succ m ih=>
  intro hm;obtain ⟨h1,h2,h3⟩:=ih (by omega);rw [Lib.compactUpTo_succ];by_cases h0:m=0
  ·subst h0;have:Lib.compactUpTo d 0 = []:=(by simp [Lib.compactUpTo]);rw [this];simp [Lib.keeps];exact fun x=>eq_comm
  ·have hle:d[m-1]!≤d[m]!:=hs (m-1) m (by omega) (by omega);by_cases hk:d[m]! = d[m-1]!
   ·rw [Lib.keeps_neg (by omega) hk];simp only [Bool.false_eq_true,if_false,List.append_nil,Nat.add_sub_cancel];refine ⟨h1,fun x=>?_,fun x hx=>List.le_trans (h3 x hx) hle⟩;rw [h2 x];constructor
    ·rintro ⟨i,hi,e⟩;exact ⟨i,by omega,e⟩
    ·rintro ⟨i,hi,e⟩
     by_cases him:i=m
     ·subst him;exact ⟨i-1,by omega,by rw [←hk];exact e⟩
     ·exact ⟨i,by omega,e⟩
   ·rw [Lib.keeps_pos hk];simp only [if_true,Nat.add_sub_cancel];have hlt:d[m-1]! < d[m]!:=by
     rcases List.le_iff_lt_or_eq.1 hle with h|h
     ·exact h
     ·exact absurd h.symm hk
    refine ⟨List.pairwise_append.2 ⟨h1,by simp,fun x hx y hy=>?_⟩,fun x=>?_,fun x hx=>?_⟩
    ·simp at hy;subst hy;exact List.lt_of_le_of_lt (h3 x hx) hlt
    ·rw [List.mem_append,h2 x];simp only [List.mem_singleton];constructor
     ·rintro (⟨i,hi,e⟩|e)
      ·exact ⟨i,by omega,e⟩
      ·exact ⟨m,by omega,e.symm⟩
     ·rintro ⟨i,hi,e⟩
      by_cases him:i=m
      ·subst him;exact .inr e.symm
      ·exact .inl ⟨i,by omega,e⟩
    ·rcases List.mem_append.1 hx with hx|hx
     ·exact List.le_trans (h3 x hx) hle
     ·simp at hx;subst hx;exact List.le_refl _
end
abbrev tB (l:List ByteArray):Blk:=.row 9 1 (l.map fun s=>[.val (.string s)])
abbrev bL (l:List ByteArray):List (List UInt8):=l.map (·.data.toList)
theorem cpB_len (l:List ByteArray):(cpB l).length≤l.length:=by
 unfold cpB Lib.compact Lib.compactUpTo;rw [List.length_map,List.length_map];exact Nat.le_trans (List.length_filter_le _ _) (by simp)
set_option maxRecDepth 20000 in
set_option maxHeartbeats 2000000 in
theorem h97 (Gl:Granted)(l:List ByteArray)(hl:l.length≤1000000000):Fun Tryz.prog Gl 78 [.own (.arg 0)] [some (tB l)] (.pv (namesV (cpB l))) [none]:=by
 refine ⟨⟨_,Tryz.func78,by kernel_rfl,rfl⟩,fun w F hd cargs hG hL hlen hr=>?_⟩
 match cargs,hlen with
 |[c],_=>
  have hc:=hr 0 _ c rfl rfl;have hb:=hL.holds (.arg 0);have hlk:lkH (keyed 0 [some (tB l)]) (.arg 0)=some (tB l):=by simp [keyed,lkH]
  rw [hlk] at hb;obtain ⟨v,cells,hv,hrow,hel,hrep,hone⟩:=hb;have hcv:c=v:=by
   cases hc with
   |own _ _ _ hx=>exact hx v hv
  subst hcv;have hcl:=cpB_len l;have hzl:(Lib.compact (bL l)).length=(cpB l).length:=by simp [cpB]
  have hpost:∀r,HoldB w F (fun _=>Hd.dead) r (lkH (keyed 0 [none]) r):=fun r=>by
   have:lkH (keyed 0 [none]) r=none:=by
    simp only [keyed,lkH];split<;>rfl
   rw [this];exact rfl
  have h0:∀(A:Option Addr) (cap:Nat),(A=none→cap=0)→l = []→c = .slice A 0 cap→Calls Tryz.prog 78 [c].toArray w (ownR w F hd (keyed 0 [none]) (.pv (namesV (cpB l)))):=fun A cap hA e e2=>by
   subst e e2;refine (Tryz.slices_Compact_string_empty A cap w).mono ?_
   rintro e w' ⟨rfl,rfl⟩
   refine ⟨_,F,fun _=>.dead,rfl,.pv _ _ (.ro 1 [] A cap (fun _ _=>undef) hA (Nat.zero_le _) (by decide) (by simp) (by simp) (by simp)),⟨hL.fin,fun r s k _ h=>h.elim,fun r k h=>h.elim,hpost⟩,
    ⟨fun r k h=>h.elim,fun k hk=>.inl hk,fun k hk=>hk,fun i=>.inr rfl,rfl,rfl,rfl,Nat.le_refl _,fun k _ _=>rfl⟩⟩
  by_cases hl0:l = []
  ·rcases hrow.2 with ⟨rfl,_⟩|⟨g,cap,cur,rfl,_⟩
   ·exact h0 none 0 (fun _=>rfl) hl0 rfl
   ·subst hl0;exact h0 (some ⟨g,0,none⟩) cap (fun e=>by cases e) rfl rfl
  ·rcases hrow.2 with ⟨rfl,hn⟩|⟨g,cap,cur,rfl,_,hg,hcap,hmax,hsz,hcur⟩
   ·exact absurd (List.eq_nil_of_length_eq_zero (by simpa using hn)) hl0
   ·rw [List.length_map] at hcap hcur;rw [Nat.mul_one] at hsz hcur;have hgl:g<w.heap.size:=(Array.getElem?_eq_some_iff.1 hg).1;have hown:(hd (.arg 0)).owns g:=(by rw [hv];rfl);have hH:Holds encStr w g 0 (bL l).toArray:=fun j hj=>by
     have hj':j<l.length:=(by simpa using hj);have h1:cur[j]?=some (.string l[j]):=by
      have hu:cells[j]?=cur[j]?:=(by rw [←hcur,List.getElem?_take_of_lt hj',Array.getElem?_toList]);have hjc:j<cur.size:=(by omega);rw [Array.getElem?_eq_getElem hjc] at hu ⊢;have:=hrep j 0 _ _ cur[j] (by rw [List.getElem?_map,List.getElem?_eq_getElem hj'];rfl) rfl (by simpa using hu);generalize cur[j]=u at this;cases this with
      |val _ _=>rfl
     refine ⟨?_,by simp [World.frozen?,hg]⟩;simp only [World.cell?,hg,Nat.zero_add];rw [h1];simp [encStr,hj']
    rw [List.length_map];have hcc:=Tryz.slices_Compact_string g 0 cap (bL l) w hH (by simp;omega) (by simpa using hcap);rw [List.length_map] at hcc;refine hcc.mono ?_
    rintro e w' ⟨rfl,q,rfl⟩
    rw [hzl];have hheap:∀k,k≠g→(putRow encStr (Sort.ahead w q) g 0 (Lib.compact (bL l)++List.replicate (l.length-(cpB l).length) []).toArray).heap[k]?=w.heap[k]?:=fun k hk=>by
     simp only [putRow,mapBlock,Array.getElem?_modify,Sort.ahead];rw [if_neg (fun e=>hk e.symm)]
    have hcell:∀i,i<(cpB l).length→(putRow encStr (Sort.ahead w q) g 0 (Lib.compact (bL l)++List.replicate (l.length-(cpB l).length) []).toArray).cell? ⟨g,0+i,none⟩=some (.string (cpB l)[i]!):=fun i hi=>by
     rw [cell?_putRow encStr (Sort.ahead w q) g 0 (bL l).toArray _ hH (by simp [hzl];omega) i (by simp [hzl];omega)];have hi':i<(Lib.compact (bL l)).length:=(by omega);simp [hi',cpB,encStr,List.getElem?_append_left]
    refine ⟨_,fun k=>F k∨k=g,fun _=>.dead,rfl,.pv _ _ (by
     have:=RepP.ro (w:=putRow encStr (Sort.ahead w q) g 0 (Lib.compact (bL l)++List.replicate (l.length-(cpB l).length) []).toArray) (F:=fun k=>F k∨k=g) 1 ((cpB l).map fun s=>[PV.val (.string s)]) (some ⟨g,0,none⟩) cap (fun i _=>.string (cpB l)[i]!) (fun e=>by cases e) (by rw [List.length_map];omega) (by rw [List.length_map];omega)
      (fun i el hi=>by obtain ⟨_,_,rfl⟩:=List.mem_map.1 (List.mem_of_getElem? hi);rfl) (fun _=>⟨_,rfl,rfl,.inr rfl,fun i j el c h1 h2=>by
        rw [List.getElem?_map] at h1;cases hx:(cpB l)[i]? with
        |none=>rw [hx] at h1;cases h1
        |some x=>
         rw [hx] at h1;cases h1;have hil:=(List.getElem?_eq_some_iff.1 hx).1
         match j,h2 with
         |0,_=>have h:=hcell i hil;rw [Nat.zero_add] at h;show _=_;simp only [Addr.add,Nat.mul_one,Nat.add_zero,Nat.zero_add];split;(· rename_i e;subst e;exact h);exact h⟩) (fun i j el c h1 h2=>by
        rw [List.getElem?_map] at h1;cases hx:(cpB l)[i]? with
        |none=>rw [hx] at h1;cases h1
        |some x=>
         rw [hx] at h1;cases h1
         match j,h2 with
         |0,h2=>
          simp at h2;subst h2;rw [List.getElem!_eq_getElem?_getD,hx];exact .val _ rfl)
     rw [List.length_map] at this;exact this),⟨fun k hk=>?_,fun r s k _ h=>h.elim,fun r k h=>h.elim,fun r=>?_⟩,
     ⟨fun r k h=>h.elim,fun k hk=>?_,fun k hk=>.inl hk,fun i=>.inr rfl,rfl,rfl,rfl,?_,fun k hk hn=>hheap k fun e=>hn ⟨_,e ▸ hown⟩⟩⟩
    ·simp only [size_putRow,heap_ahead];rcases hk with h|h
     ·exact hL.fin k h
     ·omega
    ·have:lkH (keyed 0 [none]) r=none:=by
      simp only [keyed,lkH];split<;>rfl
     rw [this];exact rfl
    ·rcases hk with h|h
     ·exact .inl h
     ·exact .inr (.inr ⟨_,h ▸ hown⟩)
    ·simp
theorem names_ok (l:List ByteArray):(cpB (sortB l)).Pairwise blt∧∀x,x∈cpB (sortB l)↔x∈l:=by
 obtain ⟨m,hm⟩:∃m,((bL l).mergeSort fun x y=>decide (x≤y))=m:=⟨_,rfl⟩;have hb:bL (sortB l)=m:=by simp [bL,sortB,←hm,Function.comp_def]
 have hp:m.Pairwise (·≤·):=by
  rw [←hm];refine (List.pairwise_mergeSort (fun a b c h1 h2=>?_) (fun a b=>?_) _).imp fun {a b} h=>by simpa using h
  ·simp only [decide_eq_true_eq] at h1 h2 ⊢;exact List.le_trans h1 h2
  ·rcases List.le_total a b with h|h<;>simp [h]
 have hperm:m.Perm (bL l):=by rw [←hm];exact List.mergeSort_perm _ _
 have hs:∀i j,i<j→j<m.toArray.size→m.toArray[i]!≤m.toArray[j]!:=fun i j hij hj=>by
  have hj':j<m.length:=by simpa using hj
  have hi':i<m.length:=by omega
  have:=List.pairwise_iff_getElem.1 hp i j hi' hj' hij;simpa [hi',hj'] using this
 obtain ⟨h1,h2,_⟩:=comp_step m.toArray hs m.length (by simp);have hc:cpB (sortB l)=(Lib.compactUpTo m.toArray m.length).map fun l=>⟨l.toArray⟩:=by
  unfold cpB Lib.compact;rw [show (sortB l).map (·.data.toList)=m from hb]
 rw [hc];refine ⟨?_,fun x=>?_⟩
 ·rw [List.pairwise_map];exact h1.imp fun {a b} h=>by simpa [blt] using h
 ·have hx:x∈l↔x.data.toList∈m:=by
   rw [hperm.mem_iff];constructor
   ·exact fun h=>List.mem_map.2 ⟨x,h,rfl⟩
   ·intro h;obtain ⟨y,hy,e⟩:=List.mem_map.1 h
    rwa [←ByteArray.ext (Array.toList_inj.1 e)]
  rw [hx,List.mem_map];constructor
  ·rintro ⟨y,hy,rfl⟩
   obtain ⟨i,hi,e⟩:=(h2 y).1 hy;simp only [List.toList_toArray];rw [←e];simp [hi]
  ·intro h;obtain ⟨i,hi,e⟩:=List.getElem_of_mem h;exact ⟨_,(h2 x.data.toList).2 ⟨i,hi,by simp [hi,e]⟩,by simp⟩
theorem h142 (Gl:Granted)(k n:Nat)(hn:n≤100000000000):FunO Tryz.prog Gl 127 [.pv (.nilS k),vI n] [] (.own (.out 0)) [] [.row 9 1 []]:=
 grow_nil Tryz.grow142 (T:=T5) tok5 rfl (by decide) Gl 127 rfl 9 rfl ⟨_,Tryz.func127,by kernel_rfl,rfl⟩ k n hn
abbrev nrowsV (l:List Row):PV:=.ro 1 (l.map fun r=>[namesV r])
set_option maxRecDepth 20000 in
theorem h101 (Gl:Granted)(r:Row)(hr:r.length≤8000000000000):FunO Tryz.prog Gl 84 [.pv (namesV r)] [] (.own (.out 0)) [] [tB r]:=by
 refine funO_of (T:=T5) (n:=8) (rs:=[.tmp 2]) Tryz.func84 (by kernel_rfl) rfl rfl rfl tok5 mixed (by simp) fun C hC=>?_;refine hC.go [5] 60 ?_;simp;refine hC.isNil Tryz.underlying23 rfl (by simp;exact ⟨rfl,rfl⟩) fun b hb=>?_;cases b with
 |true=>
  have hr0:r = []:=Classical.byContradiction fun h=>absurd (hb (by simpa using h)) (by decide);subst hr0;refine hC.til [2] [5] 60 ?_;simp;refine hC.go [5] 3 ?_;simp;refine go_to (M:=⟨[(2,.own (.out 0))],[(.out 0,some (tB []))]⟩) [(.out 0,.nil)] ?_ (by simp);refine hC.go [] 60 ?_;simp
 |false=>
  refine hC.til [3] [5] 60 ?_;simp;refine hC.go [5] 6 ?_;simp;refine ⟨by omega,?_⟩;refine go_to (M:=⟨[(2,.own (.out 0))],[(.out 0,some (tB r))]⟩) [(.out 0,.nm (.loc 7))] ?_ (by simp);refine hC.go [] 60 ?_;simp
def flatR (l:List Row)(i:Nat):Nat:=(l.take i).flatten.length
theorem flatR_take {l:List Row}{i:Nat}(h:i<l.length):(l.take (i+1)).flatten=(l.take i).flatten++l[i]:=by
 rw [List.take_add_one,List.getElem?_eq_getElem h];simp only [Option.toList_some,List.flatten_append,List.flatten_cons,List.flatten_nil,List.append_nil]
theorem flatR_succ {l:List Row}{i:Nat}(h:i<l.length):flatR l (i+1)=flatR l i+l[i].length:=by
 unfold flatR;rw [flatR_take h,List.length_append]
theorem flatR_le (l:List Row)(i:Nat):flatR l i≤l.flatten.length:=by
 have:=congrArg List.length (congrArg List.flatten (List.take_append_drop i l));rw [List.flatten_append,List.length_append] at this;unfold flatR;omega
set_option maxRecDepth 20000 in
theorem h99 (Gl:Granted)(l:List Row)(hl:l.length≤1000000)(hs:l.flatten.length≤1000000):Fun Tryz.prog Gl 81 [.pv (nrowsV l)] [] (.pv (namesV l.flatten)) []:=by
 refine fun_of (T:=T5) (n:=36) (rs:=[.tmp 2]) Tryz.func81 (by kernel_rfl) rfl rfl rfl tok5 mixed (by simp) fun C hC=>?_;refine hC.go [] 60 ?_;simp;refine go_loop (ι:={i:Nat // i≤l.length}) (fun i=>⟨[(0,.pv (nrowsV l)),(3,vI (flatR l i.1)),(9,.pv (nrowsV l)),(10,vI l.length),(11,vI i.1)],[]⟩) (fun i=>l.length-i.1) ⟨0,by simp⟩ [] (by simp [flatR]) fun x ih=>?_;obtain ⟨i,hi⟩:=x;simp only at hi ih;have hfl:=flatR_le l i;by_cases hlt:i<l.length
 ·have hw:=wr64 ((i:Int)+1) (by omega);have hft:=flatR_succ hlt;have hfl1:=flatR_le l (i+1);have hw2:=wr64 ((flatR l i:Int)+(l[i].length:Int)) (by omega);have hneg:¬((flatR l i:Int)+(l[i].length:Int))<0:=by omega
  have hlen:(flatR l (i+1):Int)=(flatR l i:Int)+(l[i].length:Int):=by omega
  refine hC.go [] 60 ?_;simp [hlt,hw2,hneg];exact go_to [] (ih ⟨i+1,hlt⟩ (by simp;omega)) (by simp [hw,hlen])
 ·have e0:flatR l i=l.flatten.length:=by unfold flatR;rw [List.take_of_length_le (by omega)]
  rw [e0];generalize hN:l.flatten.length=N at hs;refine hC.go [] 60 ?_;simp [hlt];refine hC.callO [] [.can 0] (h142 Gl 0 N (by omega)) (by simp) ?_;refine hC.go [] 60 ?_;simp;refine go_loop (ι:={i:Nat // i≤l.length}) (fun i=>⟨[(0,.pv (nrowsV l)),(6,.own (.can 0)),(25,.pv (nrowsV l)),(26,vI l.length),(27,vI i.1)],[(.can 0,some (tB (l.take i.1).flatten))]⟩) (fun i=>l.length-i.1) ⟨0,by simp⟩ [] (by simp) fun x ih=>?_;obtain ⟨i,hi⟩:=x;simp only at hi ih;have hfl:=flatR_le l i;obtain ⟨m,hm⟩:∃m,(l.take i).flatten=m:=⟨_,rfl⟩;have hml:m.length=flatR l i:=by rw [←hm];rfl
  dsimp only;rw [hm];by_cases hlt:i<l.length
  ·have hw:=wr64 ((i:Int)+1) (by omega);have hft:=flatR_take hlt;rw [hm] at hft;have hfn:=flatR_succ hlt;have hfl1:=flatR_le l (i+1);refine hC.go [] 60 ?_;simp [hlt];refine ⟨by omega,?_⟩;exact go_to [(.can 0,.nm (.loc 33))] (ih ⟨i+1,hlt⟩ (by simp;omega)) (by simp [hw,hft])
  ·have e1:m=l.flatten:=by rw [←hm,List.take_of_length_le (by omega)]
   rw [←e1] at hC;refine hC.go [] 60 ?_;simp [hlt]
end Go.Proofs.D
namespace Go.Proofs.D
open Go Go.Abs Go.RowKit
def pairK (p:Int × Int):Value:=.agg #[.int .i64 p.1,.int .i64 p.2]
def small64 (a:Int):Prop:=-9223372036854775808≤a∧a≤9223372036854775807
theorem wf64 {a:Int}(h:small64 a):(Lit.int .i64 a).wf=true:=by
 obtain ⟨h1,h2⟩:=h;have e1:IntKind.min .i64 = -9223372036854775808:=by decide
 have e2:IntKind.max .i64=9223372036854775807:=by decide
 simp only [Lit.wf,e1,e2,Bool.and_eq_true,decide_eq_true_eq];exact ⟨h1,h2⟩
theorem keyT:Tryz.prog.keyType 148=true:=by kernel_rfl
theorem key174 {p:Int × Int}(h1:small64 p.1)(h2:small64 p.2):∃kl,keyOf Tryz.prog 148 (pairK p)=some kl:=by
 have hl:Tryz.prog.keyLits (Tryz.prog.types.size+1) 148 [.int .i64 p.1,.int .i64 p.2]=some [.int .i64 p.1,.int .i64 p.2]:=by
  obtain ⟨n,hn⟩:∃n,Tryz.prog.types.size+1=n+2:=⟨Tryz.prog.types.size-1,by kernel_rfl⟩;rw [hn];have e3:∀(m:Nat) (a:Int),small64 a→Tryz.prog.keyLits (m+1) 3 [.int .i64 a]=some [.int .i64 a]:=fun m a ha=>by
   simp [Program.keyLits,Tryz.underlying3,wf64 ha]
  have c3:Tryz.prog.cellsOf 3=1:=by kernel_rfl
  have c174:Tryz.prog.cellsOf 148=2:=by kernel_rfl
  simp [Program.keyLits,Tryz.underlying148,Tryz.underlying3,c174,c3,wf64 h1,wf64 h2]
 unfold keyOf pairK;rw [Tryz.underlying148];have hf:(Value.agg #[.int .i64 p.1,.int .i64 p.2]).formed Tryz.prog 148=true:=by
  simp only [Value.formed,Tryz.underlying148];rw [show Tryz.prog.cellsOf 148=2 by kernel_rfl];rfl
 dsimp only;rw [if_pos (by rw [keyT,hf];rfl),show (Value.agg #[.int .i64 p.1,.int .i64 p.2]).cells.toList = [.int .i64 p.1,.int .i64 p.2] from rfl,hl];exact ⟨_,rfl⟩
theorem pairK_inj {p q:Int × Int}(h:pairK p=pairK q):p=q:=by
 obtain ⟨a,b⟩:=p;obtain ⟨c,d⟩:=q;simp [pairK] at h;rw [h.1,h.2]
theorem keyed174:Maps.Keyed Tryz.prog 148:=.of_law (deep_law_laid (m:=5) (by kernel_rfl) (by omega) (of_decide_eq_true (by kernel_rfl)) (by kernel_rfl) (by rw [Tryz.underlying148]))
abbrev wayP (q:Way):List PV:=[.val (.int .i64 q.1.1),.val (.int .i64 q.1.2),namesV q.2]
abbrev waysB (w:List Way):Blk:=.row 150 3 (w.map wayP)
def metP (z:Bool)(w:List (Int × Int)):List (Int × Int):=if z then (0,0)::(-1,-1)::w else (-1,-1)::(0,0)::w
def metO (z:Bool)(w:List (Int × Int)):Ents:=(metP z w).map fun p=>(pairK p,vI 1)
def metW (z:Bool)(w:List Way):Ents:=metO z ((w.drop 1).map (·.1))
theorem metW_iff (z:Bool){w:List Way}(h0:w[0]?=some ((0,0),[]))(p:Int × Int):p∈metP z ((w.drop 1).map (·.1))↔p=(-1,-1)∨p∈w.map (·.1):=by
 cases w with
 |nil=>simp at h0
 |cons q w=>
  simp at h0;subst h0;cases z<;>simp [metP]<;>constructor<;>rintro (h|h|h)<;>simp [h]
theorem metW_mem (z:Bool){w:List Way}(h0:w[0]?=some ((0,0),[])){p:Int × Int}(h:p=(-1,-1)∨p∈w.map (·.1)):(pairK p,vI 1)∈metW z w:=List.mem_map.2 ⟨p,(metW_iff z h0 p).2 h,rfl⟩
theorem metW_not (z:Bool){w:List Way}(h0:w[0]?=some ((0,0),[])){p:Int × Int}(h:¬(p=(-1,-1)∨p∈w.map (·.1))):∀q∈metW z w,q.1≠pairK p:=fun q hq e=>by
 obtain ⟨p',hp',rfl⟩:=List.mem_map.1 hq;exact h ((metW_iff z h0 p).1 (pairK_inj e ▸ hp'))
theorem metW_app (z:Bool){w:List Way}(h0:0<w.length)(q:Way):metW z (w++[q])=metW z w++[(pairK q.1,vI 1)]:=by
 unfold metW;rw [List.drop_append_of_le_length (by omega),List.map_append];cases z<;>simp [metO,metP]
theorem st_small {d:Au}{s:Int}(h:d.st s)(hn:d.next.length≤9223372036854775807):small64 s:=by
 unfold small64;rcases h with rfl|⟨h0,h1⟩
 ·decide
 ·omega
theorem hz3':∃z,(∀w,(zeroValue 3).run Tryz.prog w = .ok z w)∧∀(w:World) (F:Nat→Prop) (hd:Nm→Hd),Rep w F hd (vI 0) z:=⟨_,Tryz.zeroValue3,fun _ _ _=>rep_val rfl⟩
noncomputable def code50 (id:Nat):Code:=match Tryz.f47.body with
 |some c=>seqAt 60 id c
 |none=>.ret
section
variable {Gl:Granted} {a b:Au} {La Lb:Nat→Row→Prop} {e f:E}
set_option maxRecDepth 20000 in
set_option maxHeartbeats 4000000 in
theorem h50b (ha:Least a La)(hb:Least b Lb)(he:e.cnt≤24)(hf:f.cnt≤24)(hoe:e.ok=true)(hof:f.ok=true)(h1:∀w,La 0 w↔e.L w)(h2:∀w,Lb 0 w↔f.L w)(hna:a.next.length≤9223372036854775807)(hnb:b.next.length≤9223372036854775807)(both z:Bool)(l:List ByteArray)(hll:l.length≤2000)(hsort:l.Pairwise blt)(hmem:∀x,x∈l↔x∈a.names∨x∈b.names)
 {C:Ctx} (hC:Rd C Tryz.prog Gl T5 114 [.tmp 6,.tmp 7] (.tup [.pv (namesV (apartR e f both).1),vB (apartR e f both).2]) (keyed 0 [])) :
 Go.Abs.Go C (.top [.code (code50 4)] ⟨[(2,vB both),(3,.ptr (.loc 3) 0),(4,.ptr (.loc 4) 0),(8,.pv (namesV l)),(9,.own (.can 0)),(10,.hmap (.can 1))],[(.loc 3,some (.box 62 a.cells)),(.loc 4,some (.box 62 b.cells)),(.can 0,some (waysB [((0,0),[])])),(.can 1,some (.gen (mapC Tryz.prog 148 (metO z []))))]⟩):=by
 have hbnd:=fun (i:Nat) (done:List ByteArray) (ways:List Way) (h:Ways a b (badP a b both) l i done ways)=>ways_len h ha hb he hf hoe hof h1 h2;have hfound:=fun (i:Nat) (ways:List Way) (p:Way) (h:Ways a b (badP a b both) l i [] ways) (hp:ways[i]?=some p) (hbad:badP a b both p.1.1 p.1.2=true)=>apart_found ha hb h1 h2 (names:=l) hmem h hp hbad;have hnone:=fun (i:Nat) (ways:List Way) (h:Ways a b (badP a b both) l i [] ways) (hi:ways.length≤i)=>apart_none ha hb h1 h2 (names:=l) hmem h hi;obtain ⟨B,hB,hB2⟩:∃B,PB=B∧B≤3200000000000:=⟨_,rfl,Nat.le_refl _⟩;rw [hB] at hbnd;show Go.Abs.Go C (.top [.code (.seq _ _)] _);refine hC.til [6] [] 60 ?_;simp;refine go_loop (ι:={x:Nat × List Way // x.1≤x.2.length∧Ways a b (badP a b both) l x.1 [] x.2}) (fun x=>⟨[(2,vB both),(3,.ptr (.loc 3) 0),(4,.ptr (.loc 4) 0),(8,.pv (namesV l)),(9,.own (.can 0)),(10,.hmap (.can 1)),(11,.fn (.func 82) [] []),(12,vI x.1.1)],
  [(.loc 3,some (.box 62 a.cells)),(.loc 4,some (.box 62 b.cells)),(.can 0,some (waysB x.1.2)),(.can 1,some (.gen (mapC Tryz.prog 148 (metW z x.1.2))))]⟩)
  (fun x=>B-x.1.1) ⟨(0,[((0,0),[])]),by simp,ways_start a b _ l⟩ [(.can 0,.nm (.can 0)),(.can 1,.nm (.can 1))] (by simp [Au.cells,metW]) fun x ih=>?_
 obtain ⟨⟨i,ways⟩,hi,hW⟩:=x;simp only at hi hW ih;have hwl:=hbnd i [] ways hW;have hrowl:=ways_row hW;by_cases hlt:i<ways.length
 ·obtain ⟨q,hq⟩:∃q,ways[i]=q:=⟨_,rfl⟩;have hq':ways[i]?=some q:=by rw [List.getElem?_eq_getElem hlt,hq]
  have hat:=(hW.at' q (List.mem_of_getElem? hq')).1;have hsx:=(sem_run ha.sem.toSem0 q.2 (st0 ha.sem.toSem0)).1;have hsy:=(sem_run hb.sem.toSem0 q.2 (st0 hb.sem.toSem0)).1;have hql:=hrowl i q hq';obtain ⟨⟨x,y⟩,w⟩:=q;simp only [pr,Prod.mk.injEq] at hat hsx hsy hql;rw [←hat.1] at hsx;rw [←hat.2] at hsy;refine hC.til [9] [] 60 ?_;simp [hlt,hq,Au.cells];refine hC.drawn (by kernel_rfl) (by simp) ?_;refine hC.go [] 60 ?_;simp;refine hC.call [] (h100 Gl a x) (by simp [Au.av,Au.cells]) ?_;refine hC.go [] 60 ?_;simp;refine hC.call [] (h100 Gl b y) (by simp [Au.av,Au.cells]) ?_;refine hC.til [1010] [] 60 ?_;simp;refine go_cut (ι:=PLift (badP a b both x y=false)) (fun _=>⟨[(2,vB both),(3,.ptr (.loc 3) 0),(4,.ptr (.loc 4) 0),(8,.pv (namesV l)),(9,.own (.can 0)),(10,.hmap (.can 1)),(11,.fn (.func 82) [] []),(12,vI i),(13,.ptr (.loc 13) 0)],
   [(.loc 3,some (.box 62 a.cells)),(.loc 4,some (.box 62 b.cells)),(.can 0,some (waysB ways)),(.can 1,some (.gen (mapC Tryz.prog 148 (metW z ways)))),(.loc 13,some (.box 150 [vI x,vI y,.pv (namesV w)]))]⟩) (fun zb=>?_) (fun tail=>?_)
  ·obtain ⟨hgood⟩:=zb;refine hC.til [13] [] 60 ?_;simp;refine go_loop (ι:={zz:Nat × List Way // zz.1≤l.length∧Ways a b (badP a b both) l i (l.take zz.1) zz.2∧zz.2[i]?=some ((x,y),w)}) (fun zz=>⟨[(2,vB both),(3,.ptr (.loc 3) 0),(4,.ptr (.loc 4) 0),(8,.pv (namesV l)),(9,.own (.can 0)),(10,.hmap (.can 1)),(11,.fn (.func 82) [] []),(12,vI i),(13,.ptr (.loc 13) 0),(73,.pv (namesV l)),(74,vI l.length),(75,vI zz.1.1)],
    [(.loc 3,some (.box 62 a.cells)),(.loc 4,some (.box 62 b.cells)),(.can 0,some (waysB zz.1.2)),(.can 1,some (.gen (mapC Tryz.prog 148 (metW z zz.1.2)))),(.loc 13,some (.box 150 [vI x,vI y,.pv (namesV w)]))]⟩)
    (fun zz=>l.length-zz.1.1) ⟨(0,ways),by simp,by simpa using hW,hq'⟩ [(.can 0,.nm (.can 0)),(.can 1,.nm (.can 1))] (by simp [Au.cells]) fun zz ihk=>?_
   obtain ⟨⟨k,ws⟩,hk,hWk,hwi⟩:=zz;simp only at hk hWk hwi ihk;have hwsl:=hbnd i _ ws hWk;by_cases hkl:k<l.length
   ·have hwk:=wr64 ((k:Int)+1) (by omega);refine hC.go [] 60 ?_;simp [hkl];refine hC.drawn (by kernel_rfl) (by simp [Au.cells]) ?_;refine hC.go [] 60 ?_;simp [Au.cells];refine hC.call [] (h18 Gl a ha.sem.row x l[k]) (by simp [Au.av,Au.cells]) ?_;refine hC.go [] 60 ?_;simp [Au.cells];refine hC.call [] (h18 Gl b hb.sem.row y l[k]) (by simp [Au.av,Au.cells]) ?_;refine hC.til [16] [] 60 ?_;simp [Au.cells];have hx1:=st_small (sem_step ha.sem.toSem0 hsx l[k]).1 hna;have hy1:=st_small (sem_step hb.sem.toSem0 hsy l[k]).1 hnb;obtain ⟨kl,hkey⟩:=key174 (p:=stp2 a b (x,y) l[k]) hx1 hy1;have hst:stp2 a b (x,y) l[k]=(a.stp x l[k],b.stp y l[k]):=rfl;have hsplit:(l.take k++l[k]::l.drop (k+1)).Pairwise blt:=(by rw [←List.drop_eq_getElem_cons hkl,List.take_append_drop];exact hsort);have htake:l.take (k+1)=l.take k++[l[k]]:=(by rw [List.take_add_one,List.getElem?_eq_getElem hkl];rfl);refine hC.go [] 60 ?_;simp [Au.cells];by_cases hm:stp2 a b (x,y) l[k]=(-1,-1)∨stp2 a b (x,y) l[k]∈ws.map (·.1)
    ·have hold:=ways_old hWk hsplit hwi hgood hm;rw [←htake] at hold;refine hC.getC Tryz.underlying152 keyed174 (.can 1) (zero:=vI 0) (l:=metW z ws) hz3' (vI 1) rfl (by simp;exact key_pair _ _) hkey (.inr ⟨vI 1,metW_mem z hWk.first hm,rfl⟩) (by simp) ?_;refine hC.go [] 60 ?_;simp [hkl];exact go_to [(.can 0,.nm (.can 0)),(.can 1,.nm (.can 1))] (ihk ⟨(k+1,ws),hkl,hold,hwi⟩ (by simp;omega)) (by simp [hwk,Au.cells])
    ·refine hC.getC Tryz.underlying152 keyed174 (.can 1) (zero:=vI 0) (l:=metW z ws) hz3' (vI 0) rfl (by simp;exact key_pair _ _) hkey (.inl ⟨metW_not z hWk.first hm,rfl⟩) (by simp) ?_;refine hC.til [17] [] 60 ?_;simp;have hw11:wr .i64 1=1:=wr64 1 (by omega);refine go_cut1 (ι:=Unit) (fun _=>⟨[(2,vB both),(3,.ptr (.loc 3) 0),(4,.ptr (.loc 4) 0),(8,.pv (namesV l)),(9,.own (.can 0)),(10,.hmap (.can 1)),(11,.fn (.func 82) [] []),(12,vI i),(13,.ptr (.loc 13) 0),(17,vS l[k]),(18,.ptr (.loc 18) 0),(73,.pv (namesV l)),(74,vI l.length),(75,vI k)],
      [(.loc 3,some (.box 62 a.cells)),(.loc 4,some (.box 62 b.cells)),(.can 0,some (waysB ws)),(.can 1,some (.gen (mapC Tryz.prog 148 (metW z ws++[(pairK (stp2 a b (x,y) l[k]),vI 1)])))),(.loc 13,some (.box 150 [vI x,vI y,.pv (namesV w)])),(.loc 18,some (.box 148 [vI (a.stp x l[k]),vI (b.stp y l[k])]))]⟩) (fun _=>?_) (fun tail3=>?_)
     ·have hwb:w.length≤8000000000000:=(by omega);refine hC.drawn (by kernel_rfl) (by simp [Au.cells]) ?_;refine hC.go [] 60 ?_;simp [Au.cells];refine hC.callD [] 106 (h101 Gl w hwb) (by simp) ?_;refine hC.go [] 3 ?_;simp;refine ⟨⟨by omega,by omega⟩,?_⟩;refine hC.lay (t:=109) (r:=.loc 109) (e:=9) (sz:=1) (es:=(w++[l[k]]).map fun s=>[PV.val (.string s)]) (y:=.agg [vI (a.stp x l[k]),vI (b.stp y l[k]),.pv (namesV (w++[l[k]]))]) (by simp [Op.operands]) (by simp) ?_;refine hC.go [] 60 ?_;simp;refine ⟨⟨by omega,by omega⟩,?_⟩;have hm1:stp2 a b (x,y) l[k]≠(-1,-1):=fun h=>hm (.inl h);have hm2:stp2 a b (x,y) l[k]∉ws.map (·.1):=fun h=>hm (.inr h);have hnew:=ways_new hWk hsplit (List.getElem_mem hkl) hwi hgood hm1 hm2;rw [←htake] at hnew;have hwi2:(ws++[(stp2 a b (x,y) l[k],w++[l[k]])])[i]?=some ((x,y),w):=(by rw [List.getElem?_append_left (List.getElem?_eq_some_iff.1 hwi).1];exact hwi);have hma:=metW_app z (ways_pos hWk) (stp2 a b (x,y) l[k],w++[l[k]]);rw [hst] at hma;exact go_to [(.can 0,.nm (.loc 112)),(.can 1,.nm (.can 1))] (ihk ⟨(k+1,ws++[(stp2 a b (x,y) l[k],w++[l[k]])]),hkl,hnew,hwi2⟩ (by simp;omega)) (by simp [hwk,Au.cells,hma,hst])
     ·refine go_to (M:=⟨[(2,vB both),(3,.ptr (.loc 3) 0),(4,.ptr (.loc 4) 0),(8,.pv (namesV l)),(9,.own (.can 0)),(10,.hmap (.can 1)),(11,.fn (.func 82) [] []),(12,vI i),(13,.ptr (.loc 13) 0),(17,vS l[k]),(18,.ptr (.loc 18) 0),(73,.pv (namesV l)),(74,vI l.length),(75,vI k)],
      [(.loc 3,some (.box 62 a.cells)),(.loc 4,some (.box 62 b.cells)),(.can 0,some (waysB ws)),(.can 1,some (.gen (mapC Tryz.prog 148 (metW z ws)))),(.loc 13,some (.box 150 [vI x,vI y,.pv (namesV w)])),(.loc 18,some (.box 148 [vI (a.stp x l[k]),vI (b.stp y l[k])]))]⟩) [(.can 0,.nm (.can 0)),(.can 1,.nm (.can 1))] ?_ (by simp [Au.cells])
      refine go_all hC.mixed ?_
      repeat' first
       |(refine ra_end (by decide +kernel) ?_;refine go_to [(.can 0,.nm (.can 0)),(.can 1,.nm (.can 1))] (tail3 ()) ?_;simp [Au.cells];done)
       |(refine ra_ready [0,1] (by decide +kernel) (by simp) ?_;simp only [List.mem_cons,List.not_mem_nil,or_false,forall_eq_or_imp,forall_eq])
       |(refine ra_ready [1] (by decide +kernel) (by simp) ?_;simp only [List.mem_cons,List.not_mem_nil,or_false,forall_eq_or_imp,forall_eq])
       |(refine ra_ready [0] (by decide +kernel) (by simp) ?_;simp only [List.mem_cons,List.not_mem_nil,or_false,forall_eq_or_imp,forall_eq])
       |(refine ra_ready [2,4] (by decide +kernel) (by simp) ?_;simp only [List.mem_cons,List.not_mem_nil,or_false,forall_eq_or_imp,forall_eq])
       |(refine ra_ready [3,4] (by decide +kernel) (by simp) ?_;simp only [List.mem_cons,List.not_mem_nil,or_false,forall_eq_or_imp,forall_eq])
       |(refine ra_ready [2,5] (by decide +kernel) (by simp) ?_;simp only [List.mem_cons,List.not_mem_nil,or_false,forall_eq_or_imp,forall_eq])
       |(refine ra_ready [4] (by decide +kernel) (by simp) ?_;simp only [List.mem_cons,List.not_mem_nil,or_false,forall_eq_or_imp,forall_eq])
       |(refine ra_ready [3,5] (by decide +kernel) (by simp) ?_;simp only [List.mem_cons,List.not_mem_nil,or_false,forall_eq_or_imp,forall_eq])
       |(refine ra_ready [2] (by decide +kernel) (by simp) ?_;simp only [List.mem_cons,List.not_mem_nil,or_false,forall_eq_or_imp,forall_eq])
       |(refine ra_ready [5] (by decide +kernel) (by simp) ?_;simp only [List.mem_cons,List.not_mem_nil,or_false,forall_eq_or_imp,forall_eq])
       |(refine ra_ready [3] (by decide +kernel) (by simp) ?_;simp only [List.mem_cons,List.not_mem_nil,or_false,forall_eq_or_imp,forall_eq])
       |(refine ra_ready [6] (by decide +kernel) (by simp) ?_;simp only [List.mem_cons,List.not_mem_nil,or_false,forall_eq_or_imp,forall_eq])
       |refine And.intro ?_ ?_
       |(refine hC.raOp (fp:=[]) (A:=⟨.hmap (.can 1),[]⟩) rfl ⟨rfl,rfl,rfl⟩ ?_ ?_;(· simp [news]);simp)
       |(refine hC.raOp (fp:=[(.loc 18,.box 148 [vI (a.stp x l[k]),vI (b.stp y l[k])])]) (A:=⟨.agg [vI (a.stp x l[k]),vI (b.stp y l[k])],[]⟩) rfl ⟨rfl,rfl,rfl⟩ ?_ ?_;(· simp [news]);simp)
       |(refine hC.raOp (fp:=[]) (A:=⟨vI 1,[]⟩) rfl ?_ ?_ ?_;(· simp [hw11]);(· simp [news]);simp)
       |(refine hC.raOp (fp:=[]) (A:=⟨vI (metW z ws).length,[]⟩) rfl ⟨rfl,rfl,rfl⟩ ?_ ?_;(· simp [news]);simp)
       |(refine hC.raGet Tryz.underlying152 keyed174 (.can 1) (zero:=vI 0) (l:=metW z ws) hz3' (vI 0) rfl rfl hkey (.inl ⟨metW_not z hWk.first hm,rfl⟩) ?_ ?_ ?_;rotate_left 1;(· simp);rotate_left 1;(· (simp;exact key_pair _ _));simp)
       |(refine hC.raGetD Tryz.underlying152 keyed174 (.can 1) (zero:=vI 0) (l:=metW z ws) (p:=(pairK (stp2 a b (x,y) l[k]),vI 0)) hz3' (vI 0) rfl rfl hkey (.inr ⟨vI 0,List.mem_append.2 (.inr (List.mem_singleton.2 rfl)),rfl⟩) ?_ ?_ ?_;rotate_left 1;(· simp);rotate_left 1;(· (simp;exact key_pair _ _));simp)
       |(refine hC.raEntry (l:=metW z ws) (zero:=vI 0) (z:=.int .i64 0) Tryz.underlying152 keyed174 (.can 1) Tryz.zeroValue3 (fun _ _ _=>rep_val rfl) rfl rfl rfl hkey (metW_not z hWk.first hm) ?_ ?_ ?_;rotate_left 1;(· simp);rotate_left 1;(· (simp;exact key_pair _ _));simp)
       |(refine hC.raStore (.can 1) (k:=148) (key:=pairK (stp2 a b (x,y) l[k])) (zero:=vI 0) (av:=vI 1) (l:=metW z ws) rfl rfl ?_ ?_;(· simp);simp)
       |fail
   ·have htk:l.take k=l:=List.take_of_length_le (by omega);rw [htk] at hWk;have hturn:=ways_turn hWk (fun x hx=>hx) hwi hgood;have hil:=(List.getElem?_eq_some_iff.1 hwi).1;have hw1:=wr64 ((i:Int)+1) (by omega);refine hC.go [] 60 ?_;simp [hkl];exact go_to [(.can 0,.nm (.can 0)),(.can 1,.nm (.can 1))] (ih ⟨(i+1,ws),hil,hturn⟩ (by simp;omega)) (by simp [hw1,Au.cells])
  ·cases hbad:badP a b both x y with
   |true=>
    rw [hfound i ways _ hW hq' hbad] at hC;cases hp:a.acc x
    all_goals
     cases hq2:b.acc y
     all_goals
      cases both
      all_goals
       simp only [badP,hp,hq2] at hbad
       first
        |(exfalso;revert hbad;decide)
        |(refine hC.go [] 60 ?_
          simp)
   |false=>
    have tail':=tail ⟨hbad⟩;cases hp:a.acc x
    all_goals
     cases hq2:b.acc y
     all_goals
      cases both
      all_goals
       simp only [badP,hp,hq2] at hbad
       first
        |(exfalso;revert hbad;decide)
        |(refine hC.til [1012] [] 60 ?_
          simp;exact go_to [] tail' (by simp [Au.cells]))
 ·have hno:=hnone i ways hW (by omega);rw [hno] at hC;refine hC.til [20] [] 60 ?_;simp [hlt];refine hC.go [] 4 ?_;simp;refine go_to (M:=⟨[(6,.pv (namesV [])),(7,vB false)],[]⟩) [] ?_ (by simp);refine hC.go [] 60 ?_;simp
end
set_option maxRecDepth 20000 in
set_option maxHeartbeats 4000000 in
theorem h50 (Gl:Granted){a b:Au}{La Lb:Nat→Row→Prop}(ha:Least a La)(hb:Least b Lb){e f:E}(he:e.cnt≤24)(hf:f.cnt≤24)(hoe:e.ok=true)(hof:f.ok=true)(h1:∀w,La 0 w↔e.L w)(h2:∀w,Lb 0 w↔f.L w)
 (hla:a.names.length≤1000) (hlb:b.names.length≤1000) (both:Bool) :
 Fun Tryz.prog Gl 47 [a.av,b.av,vB both] [] (.tup [.pv (namesV (apartR e f both).1),vB (apartR e f both).2]) []:=by
 refine fun_of (T:=T5) (n:=114) (rs:=[.tmp 6,.tmp 7]) Tryz.func47 (by kernel_rfl) rfl rfl rfl tok5 mixed (by simp) fun C hC=>?_;refine go_lenA 0 1 1 a.cells (a.next.map fun r=>[ints r]) (by simp [Au.av]) rfl fun hna=>?_;refine go_lenA 1 1 1 b.cells (b.next.map fun r=>[ints r]) (by simp [Au.av]) rfl fun hnb=>?_;rw [List.length_map] at hna hnb;refine hC.go [] 60 ?_;simp [Au.av,Au.cells];refine hC.call [] (h99 Gl [a.names,b.names] (by simp) (by simp;omega)) (by simp) ?_;obtain ⟨l0,hl0⟩:∃l0,[a.names,b.names].flatten=l0:=⟨_,rfl⟩;have hl0':l0.length≤2000:=by rw [←hl0];simp;omega
 have hmem0:∀x,x∈l0↔x∈a.names∨x∈b.names:=fun x=>by rw [←hl0];simp
 rw [hl0];refine hC.go [] 60 ?_;simp;refine hC.call [] (h98 Gl l0) (by simp) ?_;refine hC.go [] 60 ?_;simp;refine hC.callO [] [.can 0] (h48o Gl l0 (by omega)) (by simp) ?_;refine hC.go [] 60 ?_;simp;have hsl:=sortB_len l0;refine hC.call [.can 0] (h97 Gl (sortB l0) (by omega)) (by simp) ?_;obtain ⟨hsort,hmem⟩:=names_ok l0;have hcl:=cpB_len (sortB l0);generalize cpB (sortB l0)=l at hsort hmem hcl;refine hC.til [3] [29] 60 ?_;simp;obtain ⟨kl0,hk0⟩:=key174 (p:=((0:Int),(0:Int))) (by unfold small64;decide) (by unfold small64;decide);obtain ⟨kl1,hk1⟩:=key174 (p:=((-1:Int),(-1:Int))) (by unfold small64;decide) (by unfold small64;decide);refine go_cut1 (ι:=Bool) (fun z=>⟨[(2,vB both),(3,.ptr (.loc 3) 0),(4,.ptr (.loc 4) 0),(8,.pv (namesV l)),(9,.own (.can 0)),(10,.hmap (.can 1))],[(.loc 3,some (.box 62 a.cells)),(.loc 4,some (.box 62 b.cells)),(.can 0,some (waysB [((0,0),[])])),(.can 1,some (.gen (mapC Tryz.prog 148 (metO z []))))]⟩) (fun z=>?_) (fun tail=>?_)
 ·exact h50b ha hb he hf hoe hof h1 h2 hna hnb both z l (by omega) hsort (fun x=>(hmem x).trans (hmem0 x)) hC
 ·skip
  refine go_to (M:=⟨[(2,vB both),(3,.ptr (.loc 3) 0),(4,.ptr (.loc 4) 0),(8,.pv (namesV l)),(9,.own (.can 0))],[(.loc 3,some (.box 62 a.cells)),(.loc 4,some (.box 62 b.cells)),(.can 0,some (waysB [((0,0),[])]))]⟩) [(.can 0,.nm (.loc 29))] ?_ (by simp [Au.cells]);refine go_all hC.mixed ?_
  repeat' first
   |(refine ra_end (by decide +kernel) ?_;first|(refine go_to [(.can 0,.nm (.can 0)),(.can 1,.nm (.loc 30))] (tail true) ?_;simp [metO,metP,Au.cells];done)|(refine go_to [(.can 0,.nm (.can 0)),(.can 1,.nm (.loc 30))] (tail false) ?_;simp [metO,metP,Au.cells];done))
   |(refine ra_ready [0,1,3] (by decide +kernel) (by simp) ?_;simp only [List.mem_cons,List.not_mem_nil,or_false,forall_eq_or_imp,forall_eq])
   |(refine ra_ready [1,3] (by decide +kernel) (by simp) ?_;simp only [List.mem_cons,List.not_mem_nil,or_false,forall_eq_or_imp,forall_eq])
   |(refine ra_ready [0,3] (by decide +kernel) (by simp) ?_;simp only [List.mem_cons,List.not_mem_nil,or_false,forall_eq_or_imp,forall_eq])
   |(refine ra_ready [0,1] (by decide +kernel) (by simp) ?_;simp only [List.mem_cons,List.not_mem_nil,or_false,forall_eq_or_imp,forall_eq])
   |(refine ra_ready [2,3] (by decide +kernel) (by simp) ?_;simp only [List.mem_cons,List.not_mem_nil,or_false,forall_eq_or_imp,forall_eq])
   |(refine ra_ready [1,4] (by decide +kernel) (by simp) ?_;simp only [List.mem_cons,List.not_mem_nil,or_false,forall_eq_or_imp,forall_eq])
   |(refine ra_ready [2,4] (by decide +kernel) (by simp) ?_;simp only [List.mem_cons,List.not_mem_nil,or_false,forall_eq_or_imp,forall_eq])
   |(refine ra_ready [0] (by decide +kernel) (by simp) ?_;simp only [List.mem_cons,List.not_mem_nil,or_false,forall_eq_or_imp,forall_eq])
   |(refine ra_ready [3] (by decide +kernel) (by simp) ?_;simp only [List.mem_cons,List.not_mem_nil,or_false,forall_eq_or_imp,forall_eq])
   |(refine ra_ready [1] (by decide +kernel) (by simp) ?_;simp only [List.mem_cons,List.not_mem_nil,or_false,forall_eq_or_imp,forall_eq])
   |(refine ra_ready [4] (by decide +kernel) (by simp) ?_;simp only [List.mem_cons,List.not_mem_nil,or_false,forall_eq_or_imp,forall_eq])
   |(refine ra_ready [2] (by decide +kernel) (by simp) ?_;simp only [List.mem_cons,List.not_mem_nil,or_false,forall_eq_or_imp,forall_eq])
   |(refine ra_ready [5] (by decide +kernel) (by simp) ?_;simp only [List.mem_cons,List.not_mem_nil,or_false,forall_eq_or_imp,forall_eq])
   |(refine ra_ready [6] (by decide +kernel) (by simp) ?_;simp only [List.mem_cons,List.not_mem_nil,or_false,forall_eq_or_imp,forall_eq])
   |refine And.intro ?_ ?_
   |(refine hC.raMk (d:=30) 148 rfl rfl rfl (by simp [Au.cells];done) ?_;simp)
   |(refine hC.raOp (fp:=[]) (A:=⟨.agg [vI 0,vI 0],[]⟩) rfl ⟨rfl,rfl,rfl⟩ (by simp [news];done) ?_;simp)
   |(refine hC.raOp (fp:=[]) (A:=⟨.agg [vI (-1),vI (-1)],[]⟩) rfl ⟨rfl,rfl,rfl⟩ (by simp [news];done) ?_;simp)
   |(refine hC.raOp (fp:=[]) (A:=⟨.hmap (.loc 30),[]⟩) rfl ⟨rfl,rfl,rfl⟩ (by simp [news];done) ?_;simp)
   |(refine hC.raPut (l:=[]) (av:=vI 1) (key:=pairK (0,0)) Tryz.underlying152 keyed174 (.loc 30) rfl (.inr rfl) ?_ hk0 ?_ ?_ ?_;rotate_left 2;(· simp);rotate_left 1;(· (simp;exact key_pair _ _));(· simp [pairK]);simp)
   |(refine hC.raPut (l:=[]) (av:=vI 1) (key:=pairK (-1,-1)) Tryz.underlying152 keyed174 (.loc 30) rfl (.inr rfl) ?_ hk1 ?_ ?_ ?_;rotate_left 2;(· simp);rotate_left 1;(· (simp;exact key_pair _ _));(· simp [pairK]);simp)
   |(refine hC.raPut (l:=[(pairK (-1,-1),vI 1)]) (av:=vI 1) (key:=pairK (0,0)) Tryz.underlying152 keyed174 (.loc 30) rfl (.inr rfl) ?_ hk0 ?_ ?_ ?_;rotate_left 2;(· simp);rotate_left 1;(· (simp;exact key_pair _ _));(· simp [pairK]);simp)
   |(refine hC.raPut (l:=[(pairK (0,0),vI 1)]) (av:=vI 1) (key:=pairK (-1,-1)) Tryz.underlying152 keyed174 (.loc 30) rfl (.inr rfl) ?_ hk1 ?_ ?_ ?_;rotate_left 2;(· simp);rotate_left 1;(· (simp;exact key_pair _ _));(· simp [pairK]);simp)
   |fail
section
variable (Gl:Granted) {a b:Au} {La Lb:Nat→Row→Prop} {e f:E} (ha:Least a La) (hb:Least b Lb) (he:e.cnt≤24) (hf:f.cnt≤24) (hoe:e.ok=true) (hof:f.ok=true) (h1:∀w,La 0 w↔e.L w) (h2:∀w,Lb 0 w↔f.L w)
 (hla:a.names.length≤1000) (hlb:b.names.length≤1000)
include ha hb he hf hoe hof h1 h2 hla hlb
set_option maxRecDepth 20000 in
theorem h25:Fun Tryz.prog Gl 25 [a.av,b.av] [] (vB (!(apartR e f true).2)) []:=by
 have hc:=h50 Gl ha hb he hf hoe hof h1 h2 hla hlb true;generalize apartR e f true=r at hc;refine fun_of (T:=T5) (n:=15) (rs:=[.tmp 4]) Tryz.func25 (by kernel_rfl) rfl rfl rfl tok5 mixed (by simp) fun C hC=>?_;refine hC.go [] 60 ?_;simp [Au.av,Au.cells];refine hC.call [] hc (by simp [Au.av,Au.cells]) ?_;refine hC.go [] 60 ?_;simp
end
end Go.Proofs.D
