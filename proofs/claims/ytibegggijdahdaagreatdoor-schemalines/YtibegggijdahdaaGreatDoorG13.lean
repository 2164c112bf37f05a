/-
  ROWS OF NUMBERS THAT RISE, laid together; one step of the answer's table.
-/
import Derived.Test.YtibegggijdahdaaGreatDoorZ5
import Derived.Test.YtibegggijdahdaaGreatDoorG3
import Derived.Test.YtibegggijdahdaaGreatDoorG12
import Derived.Test.YtibegggijdahdaaGreatDoorAbsMB
set_option linter.unusedVariables false
set_option linter.unusedSimpArgs false
namespace Go.Proofs.D
open Go Go.Abs
theorem putN_len:∀(n:Nat) (l k:List Nat),l.length+k.length≤n→(putN l k).length≤l.length+k.length
 |_,[],k,_=>by rw [putN];simp
 |_,a::l,[],_=>by rw [putN];simp
 |0,a::l,b::k,h=>by simp at h
 |n+1,a::l,b::k,h=>by
  simp at h;rw [putN];split
  ·have:=putN_len n l (b::k) (by simp;omega);simp at this ⊢;omega
  ·split
   ·have:=putN_len n (a::l) k (by simp;omega);simp at this ⊢;omega
   ·have:=putN_len n l k (by omega);simp;omega
abbrev natsB (l:List Nat):Blk:=.row 3 1 (l.map fun z:Nat=>[.val (.int .i64 (z:Int))])
set_option maxRecDepth 20000 in
set_option maxHeartbeats 2000000 in
theorem h106 (Gl:Granted)(l k:List Nat)(hs:l.length+k.length≤1000000):Fun Tryz.prog Gl 130 [.pv (nats l),.pv (nats k)] [] (.pv (nats (putN l k))) []:=by
 refine fun_of (T:=T5) (n:=84) (rs:=[.tmp 4]) Tryz.func130 (by kernel_rfl) rfl rfl rfl tok5 mixed (by simp) fun C hC=>?_;refine hC.vc [] 60 ?_;simp;refine go_loop (ι:={x:Nat × Nat × List Nat // x.1≤l.length∧x.2.1≤k.length∧x.2.2.length≤x.1+x.2.1∧putN l k=x.2.2++putN (l.drop x.1) (k.drop x.2.1)}) (fun x=>⟨[(0,.pv (nats l)),(1,.pv (nats k)),(5,.own (.can 0)),(6,vI x.1.1),(7,vI x.1.2.1)],[(.can 0,some (natsB x.1.2.2))]⟩)
  (fun x=>(l.length-x.1.1)+(k.length-x.1.2.1)) ⟨(0,0,[]),by simp⟩ [(.can 0,.nil)] (by simp) fun x ih=>?_
 obtain ⟨⟨i,j,o⟩,hi,hj,ho,hn⟩:=x;simp only at hi hj ho hn ih;have hwi:=wr64 ((i:Int)+1) (by omega);have hwj:=wr64 ((j:Int)+1) (by omega);by_cases hli:i<l.length
 ·have hliI:(i:Int)<l.length:=by omega
  have hneI:¬(i:Int)=l.length:=by omega
  have hneN:¬i=l.length:=by omega
  by_cases hlj:j<k.length
  ·have hljI:(j:Int)<k.length:=(by omega);have hnjI:¬(j:Int)=k.length:=(by omega);have hnjN:¬j=k.length:=(by omega);rw [List.drop_eq_getElem_cons hli,List.drop_eq_getElem_cons hlj,putN] at hn;obtain ⟨a,ha⟩:∃a,l[i]=a:=⟨_,rfl⟩;obtain ⟨b,hb⟩:∃b,k[j]=b:=⟨_,rfl⟩;rw [ha,hb] at hn;by_cases h1:a<b
   ·have h1I:(a:Int)<b:=(by omega);rw [if_pos h1,←hb,←List.drop_eq_getElem_cons hlj] at hn;refine hC.go [] 90 ?_;simp [hli,hliI,hneI,hneN,hlj,hljI,hnjI,hnjN,ha,hb,h1,h1I];refine hC.drawn (by kernel_rfl) (by simp) ?_;refine hC.go [] 90 ?_;simp [hli,hliI,hneI,hneN,hlj,hljI,hnjI,hnjN,ha,hb,h1,h1I];refine ⟨by omega,?_⟩;exact go_to [(.can 0,.nm (.loc 45))] (ih ⟨(i+1,j,o++[a]),hli,hj,by simp;omega,by simpa using hn⟩ (by simp;omega)) (by simp [hwi])
   ·have h1I:¬(a:Int)<b:=(by omega);rw [if_neg h1] at hn;by_cases h2:b<a
    ·have h2I:(b:Int)<a:=(by omega);rw [if_pos h2,←ha,←List.drop_eq_getElem_cons hli] at hn;refine hC.go [] 90 ?_;simp [hli,hliI,hneI,hneN,hlj,hljI,hnjI,hnjN,ha,hb,h1,h1I,h2,h2I];refine hC.drawn (by kernel_rfl) (by simp) ?_;refine hC.go [] 90 ?_;simp [hli,hliI,hneI,hneN,hlj,hljI,hnjI,hnjN,ha,hb,h1,h1I,h2,h2I];refine hC.drawn (by kernel_rfl) (by simp) ?_;refine hC.go [] 90 ?_;simp [hli,hliI,hneI,hneN,hlj,hljI,hnjI,hnjN,ha,hb,h1,h1I,h2,h2I];refine ⟨by omega,?_⟩;exact go_to [(.can 0,.nm (.loc 69))] (ih ⟨(i,j+1,o++[b]),hi,hlj,by simp;omega,by simpa using hn⟩ (by simp;omega)) (by simp [hwj])
    ·have h2I:¬(b:Int)<a:=(by omega);rw [if_neg h2] at hn;refine hC.go [] 90 ?_;simp [hli,hliI,hneI,hneN,hlj,hljI,hnjI,hnjN,ha,hb,h1,h1I,h2,h2I];refine hC.drawn (by kernel_rfl) (by simp) ?_;refine hC.go [] 90 ?_;simp [hli,hliI,hneI,hneN,hlj,hljI,hnjI,hnjN,ha,hb,h1,h1I,h2,h2I];refine hC.drawn (by kernel_rfl) (by simp) ?_;refine hC.go [] 90 ?_;simp [hli,hliI,hneI,hneN,hlj,hljI,hnjI,hnjN,ha,hb,h1,h1I,h2,h2I];refine ⟨by omega,?_⟩;exact go_to [(.can 0,.nm (.loc 78))] (ih ⟨(i+1,j+1,o++[a]),hli,hlj,by simp;omega,by simpa using hn⟩ (by simp;omega)) (by simp [hwi,hwj])
  ·have hljI:¬(j:Int)<k.length:=(by omega);have hjI:(j:Int)=k.length:=(by omega);have hjN:j=k.length:=(by omega);rw [List.drop_eq_getElem_cons hli,List.drop_eq_nil_of_le (by omega:k.length≤j),putN] at hn;refine hC.go [] 90 ?_;simp [hli,hliI,hneI,hneN,hlj,hljI,hjI];refine hC.drawn (by kernel_rfl) (by simp) ?_;refine hC.go [] 90 ?_;simp [hli,hliI,hneI,hneN,hlj,hljI,hjI];refine ⟨by omega,?_⟩;exact go_to [(.can 0,.nm (.loc 45))] (ih ⟨(i+1,j,o++[l[i]]),hli,hj,by simp;omega,by
    rw [hn,List.drop_eq_nil_of_le (by omega:k.length≤j)];cases l.drop (i+1)<;>simp [putN]⟩ (by simp;omega)) (by simp [hwi,hjI])
 ·have hliI:¬(i:Int)<l.length:=by omega
  have hiI:(i:Int)=l.length:=by omega
  have hiN:i=l.length:=by omega
  rw [List.drop_eq_nil_of_le (by omega:l.length≤i),putN] at hn;by_cases hlj:j<k.length
  ·have hljI:(j:Int)<k.length:=(by omega);have hnjI:¬(j:Int)=k.length:=(by omega);have hnjN:¬j=k.length:=(by omega);rw [List.drop_eq_getElem_cons hlj] at hn;refine hC.go [] 90 ?_;simp [hli,hliI,hiI,hlj,hljI,hnjI,hnjN];refine hC.drawn (by kernel_rfl) (by simp) ?_;refine hC.go [] 90 ?_;simp [hli,hliI,hiI,hlj,hljI,hnjI,hnjN];refine hC.drawn (by kernel_rfl) (by simp) ?_;refine hC.go [] 90 ?_;simp [hli,hliI,hiI,hlj,hljI,hnjI,hnjN];refine ⟨by omega,?_⟩;exact go_to [(.can 0,.nm (.loc 69))] (ih ⟨(i,j+1,o++[k[j]]),hi,hlj,by simp;omega,by
    rw [hn,List.drop_eq_nil_of_le (by omega:l.length≤i),putN];simp⟩ (by simp;omega)) (by simp [hwj,hiI])
  ·have hljI:¬(j:Int)<k.length:=(by omega);rw [List.drop_eq_nil_of_le (by omega),List.append_nil] at hn;refine hC.go [] 90 ?_;simp [hli,hliI,hlj,hljI,hn]
set_option maxRecDepth 20000 in
set_option maxHeartbeats 2000000 in
theorem h60 (Gl:Granted)(d:Au)(hr:∀r∈d.next,r.length=d.names.length)(s:Int)(a:ByteArray):Fun Tryz.prog Gl 95 [d.av,vI s,vS a] [] (vI (d.stp s a)) []:=by
 refine fun_of (T:=T5) (n:=41) (rs:=[.tmp 6]) Tryz.func95 (by kernel_rfl) rfl rfl rfl tok5 mixed (by simp) fun C hC=>?_;refine hC.go [] 90 ?_;simp [Au.av,Au.cells];refine go_lenB (.loc 3) 118 d.cells 0 1 (d.names.map fun s=>[.val (.string s)]) (by simp [Au.cells]) (by simp [Au.cells]) fun hlen=>?_;rw [List.length_map] at hlen;refine go_loop (ι:={i:Nat // i≤d.names.length∧(0≤s→s<d.next.length→∀j (hj:j<d.names.length),j<i→d.names[j]≠a)}) (fun x=>⟨[(1,vI s),(2,vS a),(3,.ptr (.loc 3) 0),(7,vI x.1)],[(.loc 3,some (.box 118 d.cells))]⟩) (fun x=>d.names.length-x.1) ⟨0,by simp⟩ [] (by simp [Au.cells]) fun x ih=>?_;obtain ⟨i,hi,hn⟩:=x;simp only at hi hn ih;by_cases hlt:i<d.names.length
 ·have hw:=wr64 ((i:Int)+1) (by omega);have ih':=fun (h:0≤s→s<d.next.length→d.names[i]≠a)=>ih ⟨i+1,hlt,fun h0 h1 j hj hji=>by
   by_cases e:j=i
   ·subst e;exact h h0 h1
   ·exact hn h0 h1 j hj (by omega)⟩ (by simp;omega)
  by_cases he:d.names[i]=a
  ·by_cases h0:0≤s
   ·obtain ⟨n,hs⟩:∃n:Nat,s=n:=⟨s.toNat,by omega⟩;subst hs;by_cases h1:n<d.next.length
    ·have h1I:(n:Int)<d.next.length:=(by omega);have hix:=ixK_of hlt (hn h0 h1I) he;have hrl:=hr _ (List.getElem_mem h1);have hil:i<d.next[n].length:=(by omega);have hst:d.stp n a=d.next[n][i]:=by
      have:¬(n:Int)<0:=(by omega);simp [Au.stp,this,hix,h1,List.getD,List.getElem?_eq_getElem hil]
     refine hC.go [] 90 ?_;simp [hlt,he,h0,h1,h1I,Au.cells,hil,hst]
    ·have h1I:¬(n:Int)<d.next.length:=(by omega);refine hC.go [] 90 ?_;simp [hlt,he,h0,h1,h1I,Au.cells];exact go_to [] (ih' fun _ g=>absurd g h1I) (by simp [hw,Au.cells])
   ·refine hC.go [] 90 ?_;simp [hlt,he,h0,Au.cells];exact go_to [] (ih' fun g=>absurd g h0) (by simp [hw,Au.cells])
  ·refine hC.go [] 90 ?_;simp [hlt,he,Au.cells];exact go_to [] (ih' fun _ _=>he) (by simp [hw,Au.cells])
 ·have hst:d.stp s a = -1:=by
   by_cases h0:0≤s
   ·by_cases h1:s<d.next.length
    ·refine stp_not d s (fun hm=>?_) hr;obtain ⟨j,hj,e⟩:=List.getElem_of_mem hm;exact hn h0 h1 j hj (by omega) e
    ·have:¬s<0:=(by omega);simp [Au.stp,this,List.getElem?_eq_none (show d.next.length≤s.toNat by omega)]
   ·simp [Au.stp,show s<0 by omega]
  refine hC.go [] 90 ?_;simp [hlt,Au.cells,hst]
theorem natInj {l k:List Nat}(h:l.map (fun z:Nat=>(z:Int))=k.map (fun z:Nat=>(z:Int))):l=k:=by
 induction l generalizing k with
 |nil=>cases k<;>simp at h ⊢
 |cons a l ih=>
  cases k with
  |nil=>simp at h
  |cons b k=>
   simp only [List.map_cons,List.cons.injEq] at h;rw [ih h.2,show a=b by omega]
theorem h61n (Gl:Granted)(l k:List Nat):Fun Tryz.prog Gl 96 [.pv (nats l),.pv (nats k)] [] (vB (decide (l=k))) []:=by
 have:=h61 Gl (l.map fun z:Nat=>(z:Int)) (k.map fun z:Nat=>(z:Int));simp only [ints,List.map_map,Function.comp_def] at this;rw [show decide (l=k)=decide (l.map (fun z:Nat=>(z:Int))=k.map (fun z:Nat=>(z:Int))) from by
  by_cases h:l=k
  ·subst h;simp
  ·have:¬l.map (fun z:Nat=>(z:Int))=k.map (fun z:Nat=>(z:Int)):=fun e=>h (natInj e);simp [h,this]]
 exact this
abbrev plO (r:Pr):Blk:=.box 160 [.pv (namesV r.pl.names),.pv (nats r.first),.pv (nats r.last),.pv (setsV r.pl.behind),vB r.empty]
abbrev setsB (l:List (List Nat)):Blk:=.row 158 1 (l.map fun r=>[nats r])
abbrev rowsB (l:List (List Int)):Blk:=.row 158 1 (l.map fun r=>[ints r])
abbrev intsB (l:List Int):Blk:=.row 3 1 (l.map fun z=>[.val (.int .i64 z)])
set_option maxRecDepth 20000 in
set_option maxHeartbeats 8000000 in
theorem h55 (Gl:Granted)(r:Pr)(hw:Wk r)(hen:r.en≤1000)(N:List ByteArray)(hN:N.length≤1000)(W:Nat)(hlen:∀i,(setM r N i).1.length≤W)(hW:W≤16777216) :
 Fun Tryz.prog Gl 90 [.ptr (.arg 0) 0,.pv (namesV N)] [some (plO r)] (.tup [.pv (setsV (setM r N W).1),.pv (rowsV (setM r N W).2)]) [some (plO r)]:=by
 have henE:r.pl.names.length=r.en:=rfl;have hfl:=hw.first.len;refine fun_of (T:=T5) (n:=135) (rs:=[.tmp 4,.tmp 5]) Tryz.func90 (by kernel_rfl) rfl rfl rfl tok5 mixed (by simp) fun C hC=>?_;refine hC.til [1003] [] 90 ?_;simp [plO];refine go_cut (ι:=Unit) (fun _=>⟨[(0,.ptr (.arg 0) 0),(1,.pv (namesV N)),(6,vI r.en),(7,.pv (nats (beginR r)))],[(.arg 0,some (plO r))]⟩) (fun _=>?_) (fun tail=>?_)
 ·clear hfl;refine hC.go [36] 90 ?_;simp;refine go_loop (ι:={i:Nat // i≤W}) (fun x=>⟨[(0,.ptr (.arg 0) 0),(1,.pv (namesV N)),(6,vI r.en),(8,.own (.can 0)),(9,.own (.can 1)),(10,vI x.1)],
   [(.arg 0,some (plO r)),(.can 0,some (setsB (setM r N x.1).1)),(.can 1,some (rowsB (setM r N x.1).2))]⟩) (fun x=>W-x.1) ⟨0,Nat.zero_le _⟩ [(.can 0,.nm (.loc 36)),(.can 1,.nil)] (by simp [set_first]) fun x ih=>?_
  obtain ⟨i,hi⟩:=x;simp only at ih;by_cases hlt:i<(setM r N i).1.length
  ·have hle:=hlen (i+1);have hle0:=hlen i;have hRl:=set_rows r N i;have ih':=ih ⟨i+1,by omega⟩ (by simp;omega);have hstep:=set_step r N i (setM r N i).1[i] (by simp);have hnd:=set_nodup r N i;have hund:=setM_under hw N i;rw [hstep] at hle;simp only [hstep] at ih';clear hstep ih;generalize setM r N i=M at hlt ih' hnd hund hRl hle0 hle;obtain ⟨A,R⟩:=M;simp only at hlt ih' hnd hund hRl hle0 hle;have hw1:=wr64 ((i:Int)+1) (by omega);have hRl2:R.length≤W:=(by omega);rw [←rowP_all] at hle ih';obtain ⟨S,hS⟩:∃S,A[i]=S:=⟨_,rfl⟩;rw [hS] at hle ih';refine hC.go [] 90 ?_;simp [hlt];refine hC.makeRow (e:=3) (inf:=⟨false,1,8,[.val (.int .i64 0)],.int .i64⟩) N.length rfl rfl (by simp;omega) ?_;refine hC.go [] 90 ?_;simp;refine go_loop (ι:={k:Nat // k≤N.length}) (fun x=>⟨[(0,.ptr (.arg 0) 0),(1,.pv (namesV N)),(6,vI r.en),(8,.own (.can 0)),(9,.own (.can 1)),(10,vI i),(11,.own (.can 2)),(12,vI x.1)],
    [(.arg 0,some (plO r)),(.can 0,some (setsB (rowP r N A S x.1).1)),(.can 1,some (rowsB R)),(.can 2,some (intsB ((rowP r N A S x.1).2++List.replicate (N.length-x.1) 0)))]⟩) (fun x=>N.length-x.1) ⟨0,Nat.zero_le _⟩ [(.can 2,.nm (.loc 45))] (by simp [rowP,rowK]) fun x ihk=>?_
   obtain ⟨k,hk⟩:=x;simp only at hk ihk;have hst:=rowP_facts hw (S:=S) hnd hund k hk;by_cases hkl:k<N.length
   ·have hwk:=wr64 ((k:Int)+1) (by omega);have ihk':=ihk ⟨k+1,hkl⟩ (by simp;omega);have hstep:=rowP_step (r:=r) (A:=A) (S:=S) hkl (fun s=>Decidable.em _);simp only [hstep] at ihk';clear ihk hstep ih';obtain ⟨q1,q2,q3,q4⟩:=hst;rw [←rowP_all] at q4;have hpre:=rowP_pre (r:=r) (N:=N) (A:=A) (S:=S) hnd k;have hBS:(rowP r N A S k).1[i]?=some S:=by
     obtain ⟨m,hm⟩:=hpre;rw [hm,List.getElem?_append_left hlt,List.getElem?_eq_getElem hlt,hS]
    have hSu:=hund S (by rw [←hS];simp);clear hpre hund hnd hlt hS;generalize rowP r N A S k=bz at q1 q2 q3 q4 hBS ihk';obtain ⟨B,Z⟩:=bz;simp only at q1 q2 q3 q4 hBS ihk';have hiB:i<B.length:=(List.getElem?_eq_some_iff.1 hBS).1;have hBi:B[i]=S:=(List.getElem?_eq_some_iff.1 hBS).2;obtain ⟨a,ha⟩:∃a,N[k]=a:=⟨_,rfl⟩;rw [ha] at ihk';have hSl:=hSu.len;refine hC.go [] 90 ?_;simp [hkl];refine go_loop (ι:={j:Nat // j≤S.length}) (fun x=>⟨[(0,.ptr (.arg 0) 0),(1,.pv (namesV N)),(6,vI r.en),(8,.own (.can 0)),(9,.own (.can 1)),(10,vI i),(11,.own (.can 2)),(12,vI k),(13,.pv (nats ((S.take x.1).foldl (nextX r a) []))),(14,vI x.1)],
     [(.arg 0,some (plO r)),(.can 0,some (setsB B)),(.can 1,some (rowsB R)),(.can 2,some (intsB (Z++List.replicate (N.length-k) 0)))]⟩) (fun x=>S.length-x.1) ⟨0,Nat.zero_le _⟩ [] (by simp) fun x ihj=>?_
    obtain ⟨j,hj⟩:=x;simp only at hj ihj;by_cases hjl:j<S.length
    ·have hwj:=wr64 ((j:Int)+1) (by omega);have ihj':=ihj ⟨j+1,hjl⟩ (by simp;omega);have htk:S.take (j+1)=S.take j++[S[j]]:=(by rw [List.take_add_one,List.getElem?_eq_getElem hjl];rfl);simp only [htk,List.foldl_append,List.foldl_cons,List.foldl_nil] at ihj';have hsu:=fold_under hw a (S.take j) [] (under_nil _);generalize (S.take j).foldl (nextX r a) []=s at hsu ihj';have hx:=hSu.2 S[j] (by simp);obtain ⟨x,hxe⟩:∃x,S[j]=x:=⟨_,rfl⟩;rw [hxe] at hx ihj';have hsl:=hsu.len;by_cases hxl:x<r.pl.names.length
     ·have hxI:(x:Int)<r.en:=(by omega);have hxb:x<r.pl.behind.length:=(by rw [hw.pl.len];exact hxl);obtain ⟨b,hb⟩:∃b,r.pl.behind[x]=b:=⟨_,rfl⟩;have hbu:=(hw.pl.bh b (by rw [←hb];simp)).len;have hgd:r.pl.behind.getD x []=b:=(by simp [List.getD,hxb,hb]);by_cases hna:r.pl.names[x]=a
      ·have hX:nextX r a s x=if x∈r.last then putN (putN s b) [r.en] else putN s b:=by
        rw [nextX,if_pos (by rw [List.getElem?_eq_getElem hxl,hna]),hgd]
       rw [hX] at ihj';have hp2:=putN_len (s.length+b.length) s b (Nat.le_refl _);refine hC.go [] 90 ?_;simp [hjl,hiB,hBi,hxe,hx];refine hC.drawn (by kernel_rfl) (by simp) ?_;refine hC.go [] 90 ?_;simp [hjl,hiB,hBi,hxe,hxI,hxl,hna,ha,hkl,hxb,hb];refine hC.call [] (h106 Gl s b (by omega)) (by simp [plO]) ?_;refine hC.go [] 90 ?_;simp [plO];refine hC.call [] (h56 Gl r.last x) (by simp [plO]) ?_;by_cases hm:x∈r.last
       ·rw [if_pos hm] at ihj';refine hC.go [] 90 ?_;simp [plO,hm];refine hC.call [] (h106 Gl (putN s b) [r.en] (by simp;omega)) (by simp [plO]) ?_;refine hC.go [] 90 ?_;simp [plO];exact go_to [] ihj' (by simp [hwj])
       ·rw [if_neg hm] at ihj';refine hC.go [] 90 ?_;simp [plO,hm];exact go_to [] ihj' (by simp [hwj])
      ·have hX:nextX r a s x=s:=by rw [nextX,if_neg (by rw [List.getElem?_eq_getElem hxl];simpa using hna)]
       rw [hX] at ihj';refine hC.go [] 90 ?_;simp [hjl,hiB,hBi,hxe,hx];refine hC.drawn (by kernel_rfl) (by simp) ?_;refine hC.go [] 90 ?_;simp [hjl,hiB,hBi,hxe,hxI,hxl,hna,ha,hkl];exact go_to [] ihj' (by simp [hwj])
     ·have hxI:¬(x:Int)<r.en:=(by omega);have hX:nextX r a s x=s:=by rw [nextX,if_neg (by rw [List.getElem?_eq_none (by omega)];simp)]
      rw [hX] at ihj';refine hC.go [] 90 ?_;simp [hjl,hiB,hBi,hxe,hx];refine hC.drawn (by kernel_rfl) (by simp) ?_;refine hC.go [] 90 ?_;simp [hjl,hiB,hBi,hxe,hxI,hkl];exact go_to [] ihj' (by simp [hwj])
    ·have htk:S.take j=S:=List.take_of_length_le (by omega);simp only [htk];have hsu:=fold_under hw a S [] (under_nil _);unfold nextR at ihk';generalize S.foldl (nextX r a) []=s at hsu ihk';have hBW:B.length≤16777216:=(by omega);refine hC.go [] 90 ?_;simp [hjl,hiB,hBi];refine go_loop (ι:={x:Nat × Int // x.1≤B.length∧((x.2 = -1∧∀m (hm:m<B.length),m<x.1→B[m]≠s)∨∃m:Nat,x.2=m∧B[m]?=some s)})
      (fun x=>⟨[(0,.ptr (.arg 0) 0),(1,.pv (namesV N)),(6,vI r.en),(8,.own (.can 0)),(9,.own (.can 1)),(10,vI i),(11,.own (.can 2)),(12,vI k),(13,.pv (nats s)),(16,vI x.1.2),(17,vI x.1.1)],
        [(.arg 0,some (plO r)),(.can 0,some (setsB B)),(.can 1,some (rowsB R)),(.can 2,some (intsB (Z++List.replicate (N.length-k) 0)))]⟩) (fun x=>B.length-x.1.1) ⟨(0,-1),by simp⟩ [] (by simp) fun x ihs=>?_
     obtain ⟨⟨j2,at'⟩,hj2,hat⟩:=x;simp only at hj2 hat ihs;by_cases hjl2:j2<B.length
     ·have hwj:=wr64 ((j2:Int)+1) (by omega);have hc:=h61n Gl B[j2] s;refine hC.go [] 90 ?_;simp [hjl2];refine hC.call [] hc (by simp) ?_;by_cases he:B[j2]=s
      ·refine hC.go [] 90 ?_;simp [he];exact go_to [] (ihs ⟨(j2+1,(j2:Int)),hjl2,.inr ⟨j2,rfl,by rw [List.getElem?_eq_getElem hjl2,he]⟩⟩ (by simp;omega)) (by simp [hwj])
      ·refine hC.go [] 90 ?_;simp [he];exact go_to [] (ihs ⟨(j2+1,at'),hjl2,hat.imp (fun h=>⟨h.1,fun m hm hlt=>by
        by_cases e:m=j2
        ·subst e;exact he
        ·exact h.2 m hm (by omega)⟩) id⟩ (by simp;omega)) (by simp [hwj])
     ·by_cases hm:s∈B
      ·rw [if_pos hm] at ihk';have hix:at'=(ixK s B:Nat):=by
        rcases hat with ⟨_,h⟩|⟨m,h1,h2⟩
        ·obtain ⟨m,hml,e⟩:=List.getElem_of_mem hm;exact absurd e (h m hml (by omega))
        ·rw [h1,ixK_nodup q1 h2]
       obtain ⟨ix,hixe⟩:∃n,ixK s B=n:=⟨_,rfl⟩;rw [hixe] at hix ihk';subst hix;obtain ⟨z1,z2⟩:=zset Z k N.length q3 hkl (0:Int) (ix:Int);have hneg:¬(ix:Int)<0:=(by omega);have z3:k<(Z++List.replicate (N.length-k) (0:Int)).length:=(by rw [List.length_append,List.length_replicate];omega);generalize Z++List.replicate (N.length-k) (0:Int)=Y at z1 z2 z3;rw [←z2] at ihk';refine hC.go [] 90 ?_;simp [hjl2,hneg,z3];refine hC.storeE (.can 2) (e:=3) (sz:=1) (inf:=⟨false,1,8,[.val (.int .i64 0)],.int .i64⟩) (es:=Y.map fun z=>[.val (.int .i64 z)]) (k:=k) (f:=0) (el:=[.val (.int .i64 0)]) [.val (.int .i64 (ix:Nat))] rfl (by simp [z1]) ?_;refine hC.go [] 90 ?_;simp;exact go_to [] ihk' (by simp [hwk,List.map_set])
      ·rw [if_neg hm] at ihk';have hix:at' = -1:=by
        rcases hat with ⟨h,_⟩|⟨m,h1,h2⟩
        ·exact h
        ·exact absurd (List.mem_of_getElem? h2) hm
       subst hix;obtain ⟨z1,z2⟩:=zset Z k N.length q3 hkl (0:Int) (B.length:Int);have z3:k<(Z++List.replicate (N.length-k) (0:Int)).length:=(by rw [List.length_append,List.length_replicate];omega);generalize Z++List.replicate (N.length-k) (0:Int)=Y at z1 z2 z3;rw [←z2] at ihk';refine hC.go [] 90 ?_;simp [hjl2];refine ⟨by omega,z3,?_⟩;refine hC.storeE (.can 2) (e:=3) (sz:=1) (inf:=⟨false,1,8,[.val (.int .i64 0)],.int .i64⟩) (es:=Y.map fun z=>[.val (.int .i64 z)]) (k:=k) (f:=0) (el:=[.val (.int .i64 0)]) [.val (.int .i64 (B.length:Nat))] rfl (by simp [z1]) ?_;refine hC.go [] 90 ?_;simp;exact go_to [(.can 0,.nm (.loc 124))] ihk' (by simp [hwk,List.map_set])
   ·have hkN:k=N.length:=(by omega);subst hkN;obtain ⟨_,_,q3,_⟩:=hst;generalize rowP r N A S N.length=bz at q3 ih' hle;obtain ⟨B,Z⟩:=bz;simp only at q3 ih' hle;simp only [Nat.sub_self,List.replicate_zero,List.append_nil];refine hC.til [33] [] 90 ?_;simp;refine go_to (M:=⟨[(0,.ptr (.arg 0) 0),(1,.pv (namesV N)),(6,vI r.en),(8,.own (.can 0)),(9,.own (.can 1)),(10,vI i),(11,.pv (ints Z))],[(.arg 0,some (plO r)),(.can 0,some (setsB B)),(.can 1,some (rowsB R))]⟩) [] ?_ (by simp);refine hC.go [] 90 ?_;simp;refine ⟨by omega,?_⟩;exact go_to [(.can 1,.nm (.loc 132))] ih' (by simp [hw1])
  ·rw [set_end r N i W (by omega) hi] at hC;refine hC.go [] 90 ?_;simp [hlt]
 ·cases hb:r.empty
  ·have hbg:beginR r=r.first:=(by simp [beginR,hb]);refine hC.til [1005] [] 90 ?_;simp [hb];exact go_to [] (tail ()) (by simp [hb,hbg,henE])
  ·have hbg:beginR r=putN r.first [r.en]:=(by simp [beginR,hb]);refine hC.til [1005] [] 90 ?_;simp [hb];refine hC.call [] (h106 Gl r.first [r.en] (by simp;omega)) (by simp [hb,henE]) ?_;refine hC.til [1005] [] 90 ?_;simp [hb];exact go_to [] (tail ()) (by simp [hb,hbg,henE])
abbrev plB (n m:Nm):Blk:=.box 160 [.own n,nm0,nm0,.own m,vB false]
abbrev plN (P:Pl):Blk:=.row 9 1 (P.names.map fun s=>[.val (.string s)])
abbrev plR (P:Pl):Blk:=.row 158 1 (P.behind.map fun r=>[nats r])
abbrev Pr.av (r:Pr):AV:=.tup [.pv (nats r.first),.pv (nats r.last),vB r.empty]
set_option maxRecDepth 20000 in
set_option maxHeartbeats 8000000 in
theorem h53 (Gl:Granted)(e:E)(P:Pl)(hP:WkP P)(hs:P.names.length+e.leaves≤1000)(hc:e.cnt≤1000) :
 FunO Tryz.prog Gl 89 [e.av,.ptr (.arg 0) 0] [some (plB (.arg 1) (.arg 2)),some (plN P),some (plR P)] (e.pl P).av [some (plB (.out 0) (.out 1)),none,none] [plN (e.pl P).pl,plR (e.pl P).pl]:=by
 have hpl:=pl_eq e P;have hlv:=leaves_eq e;have hcn:=cnt_eq e;by_cases hop:e.op=110
 ·rw [if_pos hop] at hpl;rw [hpl];rw [if_pos hop] at hlv;have hl1:=hP.len;refine funO_of (T:=T5) (n:=175) (rs:=[.tmp 4,.tmp 5,.tmp 6]) Tryz.func89 (by kernel_rfl) rfl rfl rfl tok5 mixed (by simp) fun C hC=>?_;have hw:=wr64 (P.names.length:Int) (by omega);refine hC.go [] 90 ?_;simp [E.av,E.cells,hop,plB];refine hC.drawn (by kernel_rfl) (by simp [E.cells,hop]) ?_;refine hC.go [] 90 ?_;simp [E.cells,hop,plB];refine ⟨by omega,?_⟩;refine ⟨by omega,?_⟩;refine go_blk (.loc 36) (.row 158 1 (P.behind.map (fun r=>[nats r])++[[.ro 0 []]])) (.row 158 1 (P.behind.map (fun r=>[nats r])++[[.ro 1 []]])) (by simp) (fun w F hd h=>hold_last h) ?_;refine go_to (M:=⟨[(1,.ptr (.arg 0) 0)],[(.arg 0,some (plB (.out 0) (.out 1))),(.out 0,some (plN ⟨P.names++[e.name],P.behind++[[]]⟩)),(.out 1,some (plR ⟨P.names++[e.name],P.behind++[[]]⟩))]⟩) [(.out 0,.nm (.loc 27)),(.out 1,.nm (.loc 36))] ?_ (by simp);refine hC.drawn (by kernel_rfl) (by simp) ?_;refine hC.go [] 90 ?_;simp [plB,hw]
 ·rw [if_neg hop] at hpl;rw [if_neg hop] at hlv;have hrec:∀x∈e.kids,∀Q:Pl,WkP Q→Q.names.length+x.leaves≤1000→FunO Tryz.prog Gl 89 [x.av,.ptr (.arg 0) 0] [some (plB (.arg 1) (.arg 2)),some (plN Q),some (plR Q)] (x.pl Q).av [some (plB (.out 0) (.out 1)),none,none] [plN (x.pl Q).pl,plR (x.pl Q).pl]:=
   fun x hx Q hQ hq=>h53 Gl x Q hQ hq (by have:=cnt_kid hx;omega)
  have hkl:=kids_le e;refine funO_of (T:=T5) (n:=175) (rs:=[.tmp 4,.tmp 5,.tmp 6]) Tryz.func89 (by kernel_rfl) rfl rfl rfl tok5 mixed (by simp) fun C hC=>?_;refine hC.go [] 90 ?_;simp [E.av,E.cells,hop,plB];refine go_loop (ι:={x:Nat × Pr // x.1≤e.kids.length∧E.pl.go e.op (e.kids.drop x.1) x.2=E.pl.go e.op e.kids ⟨P,[],[],!decide (e.op=97)⟩∧Wk x.2∧x.2.pl.names.length+E.leaves.go (e.kids.drop x.1)=P.names.length+E.leaves.go e.kids})
   (fun x=>⟨[(1,.ptr (.arg 0) 0),(2,.ptr (.loc 2) 0),(7,.pv (nats x.1.2.first)),(8,.pv (nats x.1.2.last)),(9,vB x.1.2.empty),(10,vI x.1.1)],
     [(.arg 0,some (plB (.can 0) (.can 1))),(.can 0,some (plN x.1.2.pl)),(.can 1,some (plR x.1.2.pl)),(.loc 2,some (.box 69 e.cells))]⟩)
   (fun x=>e.kids.length-x.1.1) ⟨(0,⟨P,[],[],!decide (e.op=97)⟩),by simp,by simp,wk_start hP _,by simp⟩ [(.can 0,.nm (.arg 1)),(.can 1,.nm (.arg 2))] (by simp [E.cells]) fun x ih=>?_
  obtain ⟨⟨i,st⟩,hi,hg,hw,hn⟩:=x;simp only at hi hg hw hn ih;by_cases hlt:i<e.kids.length
  ·have hw1:=wr64 ((i:Int)+1) (by omega);rw [List.drop_eq_getElem_cons hlt] at hg hn;rw [E.pl.go] at hg;rw [E.leaves.go] at hn;have hcall:=hrec e.kids[i] (by simp) st.pl hw.pl (by omega);have hwr:=pl_wk e.kids[i] st.pl hw.pl;have hle:=(pl_len e.kids[i] st.pl).1;have hstep:=wk_step e.op hw hwr (by omega);have hnm:=names_step e.op st (e.kids[i].pl st.pl);generalize e.kids[i].pl st.pl=r at hg hcall hwr hle hstep hnm;obtain ⟨st',hst'⟩:∃s,plStep e.op st r=s:=⟨_,rfl⟩;rw [hst'] at hg hstep hnm;have ih'':=ih ⟨(i+1,st'),hlt,hg,hstep,by show st'.pl.names.length+E.leaves.go (e.kids.drop (i+1))=_;rw [hnm];omega⟩ (by simp;omega);clear ih;have l1:=(hw.first.mono (show st.pl.names.length≤r.pl.names.length by omega)).len;have l2:=(hw.last.mono (show st.pl.names.length≤r.pl.names.length by omega)).len;have l3:=hwr.first.len;have l4:=hwr.last.len;refine hC.go [] 90 ?_;simp [hlt,E.cells,E.pv_eq e.kids[i]];refine hC.callO [.arg 0,.can 0,.can 1] [.can 2,.can 3] hcall (by simp [E.av,E.cells]) ?_;by_cases h97:e.op=97
   ·have hst:st'=⟨r.pl,putN st.first r.first,putN st.last r.last,st.empty || r.empty⟩:=(by rw [←hst',plStep,if_pos h97]);subst hst;refine hC.go [] 90 ?_;simp [E.cells,h97];refine hC.call [] (h106 Gl st.first r.first (by omega)) (by simp) ?_;refine hC.go [] 90 ?_;simp [E.cells,h97];refine hC.call [] (h106 Gl st.last r.last (by omega)) (by simp) ?_;cases hb:st.empty
    all_goals
     refine hC.go [] 90 ?_;simp [E.cells,h97];exact go_to [(.can 0,.nm (.can 2)),(.can 1,.nm (.can 3))] ih'' (by simp [hw1,hb,E.cells,h97])
   ·refine hC.go [] 90 ?_;simp [E.cells,h97];refine go_loop (ι:={k:Nat // k≤st.last.length})
     (fun x=>⟨[(1,.ptr (.arg 0) 0),(2,.ptr (.loc 2) 0),(7,.pv (nats st.first)),(8,.pv (nats st.last)),(9,vB st.empty),(10,vI i),(11,.pv (nats r.first)),(12,.pv (nats r.last)),(13,vB r.empty),(14,vI x.1)],
       [(.arg 0,some (plB (.can 0) (.can 1))),(.can 0,some (plN r.pl)),(.can 1,some (plR ⟨r.pl.names,updB r.pl.behind (st.last.take x.1) r.first⟩)),(.loc 2,some (.box 69 e.cells))]⟩)
     (fun x=>st.last.length-x.1) ⟨0,Nat.zero_le _⟩ [(.can 0,.nm (.can 2)),(.can 1,.nm (.can 3))] (by simp [updB,E.cells]) fun x ihk=>?_
    obtain ⟨k,hk⟩:=x;simp only at hk ihk;by_cases hkl:k<st.last.length
    ·have hwk:=wr64 ((k:Int)+1) (by omega);have hsn:=updB_snoc r.pl.behind (st.last.take k) st.last[k] r.first;have hBl:=updB_len r.first (st.last.take k) r.pl.behind;have hBu:=updB_under hwr.first (st.last.take k) _ hwr.pl.bh;have hxl:=hw.last.2 st.last[k] (by simp);have htk:st.last.take (k+1)=st.last.take k++[st.last[k]]:=(by rw [List.take_add_one,List.getElem?_eq_getElem hkl];rfl);have ihk':=ihk ⟨k+1,hkl⟩ (by simp;omega);simp only [htk,hsn] at ihk';generalize updB r.pl.behind (st.last.take k) r.first=B at hBl hBu ihk';obtain ⟨y,hy⟩:∃y,st.last[k]=y:=⟨_,rfl⟩;rw [hy] at hxl ihk';have hyB:y<B.length:=(by rw [hBl,hwr.pl.len];omega);obtain ⟨b,hb⟩:∃b,B[y]=b:=⟨_,rfl⟩;have hbl:=(hBu b (by rw [←hb];simp)).len;refine hC.go [] 90 ?_;simp [hkl];refine hC.drawn (by kernel_rfl) (by simp [E.cells]) ?_;refine hC.go [] 90 ?_;simp [hkl,hy,hyB,hb,plB];refine hC.call [] (h106 Gl b r.first (by omega)) (by simp [E.cells]) ?_;refine hC.go [] 90 ?_;simp [hkl,hy,hyB,hb,plB];refine hC.storeE (.can 1) (e:=158) (sz:=1) (inf:=⟨false,1,24,[.nilS 1],.slice 3⟩) (es:=B.map fun r=>[nats r]) (k:=y) (f:=0) (el:=[nats b]) [nats (putN b r.first)] rfl (by simp [hyB,hb,plB,E.cells]) ?_;refine hC.go [] 90 ?_;simp [plB];have hgd:B.getD y []=b:=(by simp [List.getD,hyB,hb]);rw [hgd] at ihk';exact go_to [] ihk' (by simp [hwk,List.map_set,E.cells])
    ·have htk:st.last.take k=st.last:=List.take_of_length_le (by omega);simp only [htk];have hst:st'=⟨⟨r.pl.names,updB r.pl.behind st.last r.first⟩,if st.empty=true then putN st.first r.first else st.first,if r.empty=true then putN st.last r.last else r.last,st.empty&&r.empty⟩:=(by rw [←hst',plStep,if_neg h97]);subst hst;have c1:=h106 Gl st.first r.first (by omega);have c2:=h106 Gl st.last r.last (by omega);cases hb:st.empty
     ·cases hb2:r.empty
      ·refine hC.go [] 90 ?_;simp [hkl,hb,hb2];exact go_to [] ih'' (by simp [hw1,hb,hb2,E.cells])
      ·refine hC.go [] 90 ?_;simp [hkl,hb,hb2];refine hC.call [] c2 (by simp [E.cells]) ?_;refine hC.go [] 90 ?_;simp [hb,hb2];exact go_to [] ih'' (by simp [hw1,hb,hb2,E.cells])
     ·cases hb2:r.empty
      ·refine hC.go [] 90 ?_;simp [hkl,hb,hb2];refine hC.call [] c1 (by simp [E.cells]) ?_;refine hC.go [] 90 ?_;simp [hb,hb2];exact go_to [] ih'' (by simp [hw1,hb,hb2,E.cells])
      ·refine hC.go [] 90 ?_;simp [hkl,hb,hb2];refine hC.call [] c1 (by simp [E.cells]) ?_;refine hC.go [] 90 ?_;simp [hb,hb2];refine hC.call [] c2 (by simp [E.cells]) ?_;refine hC.go [] 90 ?_;simp [hb,hb2];exact go_to [] ih'' (by simp [hw1,hb,hb2,E.cells])
  ·rw [List.drop_eq_nil_of_le (by omega)] at hg;rw [E.pl.go] at hg;rw [←hg] at hpl;clear hg ih;have l2:=hw.last.len;have l1:=hw.first.len;have hsm:st.pl.names.length≤1000:=(by omega);by_cases hst:e.op=42∨e.op=43
   ·have hfin:e.pl P=⟨⟨st.pl.names,updB st.pl.behind st.last st.first⟩,st.first,st.last,st.empty || decide (e.op=42)⟩:=by
     rw [hpl,plEnd,if_pos hst];rcases hst with h|h<;>simp [h]
    rw [hfin] at hC;rcases hst with hop2|hop2
    all_goals
     refine hC.go [] 90 ?_;simp [hlt,hop2,E.cells];refine go_loop (ι:={k:Nat // k≤st.last.length})
      (fun x=>⟨[(1,.ptr (.arg 0) 0),(2,.ptr (.loc 2) 0),(7,.pv (nats st.first)),(8,.pv (nats st.last)),(9,vB st.empty),(15,vI x.1)],
        [(.arg 0,some (plB (.can 0) (.can 1))),(.can 0,some (plN st.pl)),(.can 1,some (plR ⟨st.pl.names,updB st.pl.behind (st.last.take x.1) st.first⟩)),(.loc 2,some (.box 69 e.cells))]⟩)
      (fun x=>st.last.length-x.1) ⟨0,Nat.zero_le _⟩ [] (by simp [updB,E.cells,hop2]) fun x ihk=>?_
     obtain ⟨k,hk⟩:=x;simp only at hk ihk;by_cases hkl:k<st.last.length
     ·have hwk:=wr64 ((k:Int)+1) (by omega);have hsn:=updB_snoc st.pl.behind (st.last.take k) st.last[k] st.first;have hBl:=updB_len st.first (st.last.take k) st.pl.behind;have hBu:=updB_under hw.first (st.last.take k) _ hw.pl.bh;have hxl:=hw.last.2 st.last[k] (by simp);have htk:st.last.take (k+1)=st.last.take k++[st.last[k]]:=(by rw [List.take_add_one,List.getElem?_eq_getElem hkl];rfl);have ihk':=ihk ⟨k+1,hkl⟩ (by simp;omega);simp only [htk,hsn] at ihk';generalize updB st.pl.behind (st.last.take k) st.first=B at hBl hBu ihk';obtain ⟨y,hy⟩:∃y,st.last[k]=y:=⟨_,rfl⟩;rw [hy] at hxl ihk';have hyB:y<B.length:=(by rw [hBl,hw.pl.len];exact hxl);obtain ⟨b,hb⟩:∃b,B[y]=b:=⟨_,rfl⟩;have hbl:=(hBu b (by rw [←hb];simp)).len;have hgd:B.getD y []=b:=(by simp [List.getD,hyB,hb]);rw [hgd] at ihk';refine hC.go [] 90 ?_;simp [hkl];refine hC.drawn (by kernel_rfl) (by simp [E.cells]) ?_;refine hC.go [] 90 ?_;simp [hkl,hy,hyB,hb,plB];refine hC.call [] (h106 Gl b st.first (by omega)) (by simp [E.cells]) ?_;refine hC.go [] 90 ?_;simp [hkl,hy,hyB,hb,plB];refine hC.storeE (.can 1) (e:=158) (sz:=1) (inf:=⟨false,1,24,[.nilS 1],.slice 3⟩) (es:=B.map fun r=>[nats r]) (k:=y) (f:=0) (el:=[nats b]) [nats (putN b st.first)] rfl (by simp [hyB,hb,plB,E.cells]) ?_;refine hC.go [] 90 ?_;simp [plB];exact go_to [] ihk' (by simp [hwk,List.map_set,E.cells])
     ·have htk:st.last.take k=st.last:=List.take_of_length_le (by omega);simp only [htk];refine hC.go [] 90 ?_;simp [hkl];refine go_to (M:=⟨[(2,.ptr (.loc 2) 0),(7,.pv (nats st.first)),(8,.pv (nats st.last)),(9,vB st.empty)],[(.arg 0,some (plB (.out 0) (.out 1))),(.out 0,some (plN st.pl)),(.out 1,some (plR ⟨st.pl.names,updB st.pl.behind st.last st.first⟩)),(.loc 2,some (.box 69 e.cells))]⟩) [(.out 0,.nm (.can 0)),(.out 1,.nm (.can 1))] ?_ (by simp [E.cells]);refine hC.drawn (by kernel_rfl) (by simp [E.cells]) ?_;cases hb:st.empty
      all_goals
       refine hC.go [] 90 ?_;simp [hop2,hb,E.cells]
   ·have h42:¬e.op=42:=fun h=>hst (.inl h);have h43:¬e.op=43:=fun h=>hst (.inr h);have hfin:e.pl P=⟨st.pl,st.first,st.last,st.empty || decide (e.op=63)⟩:=(by rw [hpl,plEnd,if_neg hst];simp [h42]);rw [hfin] at hC;refine hC.go [] 90 ?_;simp [hlt,h42,h43,E.cells];refine go_to (M:=⟨[(2,.ptr (.loc 2) 0),(7,.pv (nats st.first)),(8,.pv (nats st.last)),(9,vB st.empty)],[(.arg 0,some (plB (.out 0) (.out 1))),(.out 0,some (plN st.pl)),(.out 1,some (plR st.pl)),(.loc 2,some (.box 69 e.cells))]⟩) [(.out 0,.nm (.can 0)),(.out 1,.nm (.can 1))] ?_ (by simp [E.cells]);refine hC.drawn (by kernel_rfl) (by simp [E.cells]) ?_;cases hb:st.empty
    all_goals
     by_cases h63:e.op=63
     all_goals
      refine hC.go [] 90 ?_;simp [h42,h63,hb,E.cells]
termination_by SizeOf.sizeOf e
decreasing_by exact E.kids_lt hx
theorem take_push {α:Type}(l:List α)(i n:Nat)(z:α)(hl:l.length=n)(hi:i<n)(hz:l[i]?=some z):l.take i++List.replicate (n-i) z=l.take (i+1)++List.replicate (n-(i+1)) z:=by
 rw [List.take_add_one,hz,show n-i=(n-(i+1))+1 by omega,List.replicate_succ];simp
theorem take_set {α:Type}(l:List α)(i n:Nat)(z v:α)(hl:l.length=n)(hi:i<n)(hv:l[i]?=some v):(l.take i++List.replicate (n-i) z)[i]?=some z∧(l.take i++List.replicate (n-i) z).set i v=l.take (i+1)++List.replicate (n-(i+1)) z:=by
 obtain ⟨h1,h2⟩:=zset (l.take i) i n (by rw [List.length_take];omega) hi z v;refine ⟨h1,h2.trans ?_⟩;rw [List.take_add_one,hv];simp
theorem take_succ_iff {α:Type}{l m:List α}{q:Nat}(h1:q<l.length)(h2:q<m.length):l.take (q+1)=m.take (q+1)↔l.take q=m.take q∧l[q]=m[q]:=by
 rw [List.take_add_one,List.take_add_one,List.getElem?_eq_getElem h1,List.getElem?_eq_getElem h2];constructor
 ·intro h;have:=List.append_inj h (by simp;omega);exact ⟨this.1,by simpa using this.2⟩
 ·rintro ⟨e1,e2⟩
  rw [e1,e2]
theorem clsOf_nat (C:List Int)(p:Nat)(h:p<C.length):clsOf C (p:Int)=C[p]:=by
 have:¬(p:Int)<0:=by omega
 simp [clsOf,this,List.getD,h]
abbrev infI:TI:=⟨false,1,8,[.val (.int .i64 0)],.int .i64⟩
set_option maxRecDepth 20000 in
set_option maxHeartbeats 8000000 in
theorem h58 (Gl:Granted)(d:Au)(ht:Tot d)(hN:d.names.length≤1000)(hn:d.next.length≤16777216):Fun Tryz.prog Gl 93 [.pv (finV d.final),.pv (rowsV d.next)] [] (.pv (ints (clsN d d.next.length))) []:=by
 have hfl:=ht.fin;obtain ⟨n,hnn⟩:∃n,d.next.length=n:=⟨_,rfl⟩;rw [hnn] at hfl hn;rw [hnn];refine fun_of (T:=T5) (n:=111) (rs:=[.tmp 4]) Tryz.func93 (by kernel_rfl) rfl rfl rfl tok5 mixed (by simp) fun C hC=>?_;refine hC.go [] 90 ?_;simp [hfl];refine hC.makeRow (e:=3) (inf:=infI) n rfl rfl (by simp;omega) ?_;refine hC.go [] 90 ?_;simp;have hc0:(cls0 d).length=n:=by simp [cls0,hfl]
 refine go_loop (ι:={i:Nat // i≤n}) (fun x=>⟨[(0,.pv (finV d.final)),(1,.pv (rowsV d.next)),(5,vI n),(6,.own (.can 0)),(7,vI x.1)],[(.can 0,some (intsB ((cls0 d).take x.1++List.replicate (n-x.1) 0)))]⟩) (fun x=>n-x.1) ⟨0,Nat.zero_le _⟩ [(.can 0,.nm (.loc 19))] (by simp) fun x ih=>?_;obtain ⟨i,hi⟩:=x;simp only at ih;by_cases hlt:i<n
 ·have hltI:(i:Int)<n:=by omega
  have hlf:i<d.final.length:=by omega
  have hw1:=wr64 ((i:Int)+1) (by omega);have ih':=ih ⟨i+1,hlt⟩ (by simp;omega);simp only at ih';clear ih;cases hf:d.final[i] with
  |true=>
   obtain ⟨z1,z2⟩:=take_set (cls0 d) i n 0 1 hc0 hlt (by simp [cls0,hlf,hf]);rw [←z2] at ih';have z3:i<((cls0 d).take i++List.replicate (n-i) (0:Int)).length:=(by rw [List.length_append,List.length_take,List.length_replicate];omega);generalize (cls0 d).take i++List.replicate (n-i) (0:Int)=Y at z1 z3 ih';refine hC.go [] 90 ?_;simp [hltI,hlt,hlf,hf];refine ⟨z3,?_⟩;refine hC.storeE (.can 0) (e:=3) (sz:=1) (inf:=infI) (es:=Y.map fun z=>[.val (.int .i64 z)]) (k:=i) (f:=0) (el:=[.val (.int .i64 0)]) [.val (.int .i64 1)] rfl (by simp [z1]) ?_;refine hC.go [] 90 ?_;simp;exact go_to [] ih' (by simp [hw1,List.map_set])
  |false=>
   have z2:=take_push (cls0 d) i n 0 hc0 hlt (by simp [cls0,hlf,hf]);rw [←z2] at ih';refine hC.go [] 90 ?_;simp [hltI,hlt,hlf,hf];exact go_to [] ih' (by simp [hw1])
 ·have hin:i=n:=by omega
  subst hin;have hltI:¬(i:Int)<i:=by omega
  simp only [Nat.sub_self,List.replicate_zero,List.append_nil,List.take_of_length_le (Nat.le_of_eq hc0)];clear ih hi hlt;refine hC.go [] 90 ?_;simp [hltI];refine go_loop (ι:={t:Nat // t≤i}) (fun x=>⟨[(1,.pv (rowsV d.next)),(5,vI i),(6,.own (.can 0)),(8,vI x.1)],[(.can 0,some (intsB (clsN d x.1)))]⟩) (fun x=>i-x.1) ⟨0,Nat.zero_le _⟩ [] (by simp [clsN]) fun x iht=>?_;obtain ⟨tt,htt⟩:=x;simp only at iht htt;have hCl:=clsN_len ht tt;rw [hnn] at hCl;by_cases hlt:tt<i
  ·have hltI:(tt:Int)<i:=(by omega);have hwt:=wr64 ((tt:Int)+1) (by omega);have iht':=iht ⟨tt+1,hlt⟩ (by simp;omega);simp only [clsN,relab_P] at iht';clear iht;obtain ⟨C,hCe⟩:∃C,clsN d tt=C:=⟨_,rfl⟩;simp only [hCe] at hCl iht' ⊢;have hsg:∀j (hj:j<i),(signs d C)[j]?=some ((C[j]'(by omega))::(d.next[j]'(by omega)).map (clsOf C)):=fun j hj=>sign_get (by omega) (by omega);have hsl:(signs d C).length=i:=(by simp [signs,hnn]);rw [hsl] at iht';generalize hSe:signs d C=S at iht' hsg hsl;refine hC.go [] 90 ?_;simp [hltI];refine hC.makeRow (e:=3) (inf:=infI) i rfl rfl (by simp;omega) ?_;refine hC.go [] 90 ?_;simp;refine go_loop (ι:={k:Nat // k≤i}) (fun x=>⟨[(1,.pv (rowsV d.next)),(5,vI i),(6,.own (.can 0)),(8,vI tt),(9,.own (.can 1)),(10,vI (relP S x.1).1.length),(11,vI x.1)],
    [(.can 0,some (intsB C)),(.can 1,some (intsB ((relP S x.1).2++List.replicate (i-x.1) 0)))]⟩) (fun x=>i-x.1) ⟨0,Nat.zero_le _⟩ [(.can 1,.nm (.loc 38))] (by simp [relP,rowK]) fun x ihk=>?_
   obtain ⟨k,hk⟩:=x;simp only at hk ihk;by_cases hkl:k<i
   ·have hkI:(k:Int)<i:=(by omega);have hwk:=wr64 ((k:Int)+1) (by omega);have ihk':=ihk ⟨k+1,hkl⟩ (by simp;omega);obtain ⟨q1,q2,q3,q4,q5⟩:=relP_facts S k (by omega);simp only [relP_step S k _ (hsg k hkl)] at ihk';clear ihk iht';generalize relP S k=bz at q1 q2 q3 q4 q5 ihk';obtain ⟨A,D⟩:=bz;simp only at q1 q2 q3 q4 q5 ihk';have hkn:k<d.next.length:=(by omega);obtain ⟨sk,hsk⟩:∃s,(C[k]::d.next[k].map (clsOf C))=s:=⟨_,rfl⟩;rw [hsk] at ihk';obtain ⟨z1,z2⟩:=zset D k i q2 hkl (0:Int) ((ixK sk A:Nat):Int);obtain ⟨_,z2'⟩:=zset D k i q2 hkl (0:Int) (A.length:Int);have z3:k<(D++List.replicate (i-k) (0:Int)).length:=(by rw [List.length_append,List.length_replicate];omega);have hYD:∀j,j<k→(D++List.replicate (i-k) (0:Int))[j]?=D[j]?:=fun j hj=>List.getElem?_append_left (by omega);generalize D++List.replicate (i-k) (0:Int)=Y at z1 z2 z2' z3 hYD;have hwA:=wr64 ((A.length:Int)+1) (by omega);refine hC.go [] 90 ?_;simp [hkI];refine go_loop (ι:={x:Nat × Int // x.1≤k∧((x.2 = -1∧∀j,j<x.1→S[j]?≠some sk)∨(sk∈A∧x.2=((ixK sk A:Nat):Int)))})
     (fun x=>⟨[(1,.pv (rowsV d.next)),(5,vI i),(6,.own (.can 0)),(8,vI tt),(9,.own (.can 1)),(10,vI A.length),(11,vI k),(12,vI x.1.2),(13,vI x.1.1)],
       [(.can 0,some (intsB C)),(.can 1,some (intsB Y))]⟩) (fun x=>k-x.1.1) ⟨(0,-1),by simp⟩ [] (by simp) fun x ihj=>?_
    obtain ⟨⟨j,at'⟩,hj,hat⟩:=x;simp only at hj hat ihj;by_cases hgo:j<k∧at'<0
    ·obtain ⟨hjk,hneg⟩:=hgo;have hjkI:(j:Int)<k:=(by omega);obtain ⟨hat1,hat2⟩:at' = -1∧∀j',j'<j→S[j']?≠some sk:=by
      rcases hat with h|⟨_,h⟩
      ·exact h
      ·omega
     subst hat1;have hwj:=wr64 ((j:Int)+1) (by omega);have hji:j<i:=(by omega);have hjn:j<d.next.length:=(by omega);have hSj:=hsg j hji;have hq3:=fun (h:S[j]?=some sk)=>q3 j sk hjk h;have hkC:k<C.length:=(by omega);have hjC:j<C.length:=(by omega);obtain ⟨rk,hrk⟩:∃r,d.next[k]=r:=⟨_,rfl⟩;obtain ⟨rj,hrj⟩:∃r,d.next[j]=r:=⟨_,rfl⟩;have tk:=ht.row rk (by rw [←hrk];simp);have tj:=ht.row rj (by rw [←hrj];simp);rw [hnn] at tk tj;rw [hrk] at hsk;rw [hrj] at hSj;have hYj:j<Y.length:=(by omega);refine hC.go [] 90 ?_;simp [hjkI];refine hC.drawn (by kernel_rfl) (by simp) ?_;refine hC.go [] 90 ?_;simp [hkC,hjC];refine go_loop (ι:={x:Nat × Bool // x.1≤rk.length∧x.2=(decide (C[k]=C[j])&&decide ((rk.map (clsOf C)).take x.1=(rj.map (clsOf C)).take x.1))})
      (fun x=>⟨[(1,.pv (rowsV d.next)),(5,vI i),(6,.own (.can 0)),(8,vI tt),(9,.own (.can 1)),(10,vI A.length),(11,vI k),(12,vI (-1)),(13,vI j),(14,vB x.1.2),(15,vI x.1.1)],
        [(.can 0,some (intsB C)),(.can 1,some (intsB Y))]⟩) (fun x=>rk.length-x.1.1) ⟨(0,decide (C[k]=C[j])),by simp⟩ [] (by simp) fun x ihq=>?_
     obtain ⟨⟨q,b⟩,hq,hb⟩:=x;simp only at hq hb ihq;by_cases hql:q<rk.length
     ·have hwq:=wr64 ((q:Int)+1) (by omega);have hqj:q<rj.length:=(by omega);obtain ⟨p1,e1,l1⟩:=tk.2 rk[q] (by simp);obtain ⟨p2,e2,l2⟩:=tj.2 rj[q] (by simp);have hp1:p1<C.length:=(by omega);have hp2:p2<C.length:=(by omega);have hiff:(rk.map (clsOf C)).take (q+1)=(rj.map (clsOf C)).take (q+1)↔(rk.map (clsOf C)).take q=(rj.map (clsOf C)).take q∧C[p1]=C[p2]:=by
       rw [take_succ_iff (by simpa using hql) (by simpa using hqj),List.getElem_map,List.getElem_map,e1,e2,clsOf_nat C p1 hp1,clsOf_nat C p2 hp2]
      have ihq':=fun (b':Bool) (hb':b'=(decide (C[k]=C[j])&&decide ((rk.map (clsOf C)).take (q+1)=(rj.map (clsOf C)).take (q+1))))=>ihq ⟨(q+1,b'),hql,hb'⟩ (by simp;omega);simp only [hiff,Bool.decide_and,←Bool.and_assoc,←hb] at ihq';refine hC.go [] 90 ?_;simp [hkn,hrk,hql];refine hC.drawn (by kernel_rfl) (by simp) ?_;cases b
      ·refine hC.go [] 90 ?_;simp;exact go_to [] (ihq' false rfl) (by simp [hwq])
      ·by_cases hcc:C[p1]=C[p2]
       ·refine hC.go [] 90 ?_;simp [hkn,hrk,hrj,hjn,hql,hqj,e1,e2,hp1,hp2,hcc];exact go_to [] (ihq' true (by simp [hcc])) (by simp [hwq])
       ·refine hC.go [] 90 ?_;simp [hkn,hrk,hrj,hjn,hql,hqj,e1,e2,hp1,hp2,hcc];exact go_to [] (ihq' false (by simp [hcc])) (by simp [hwq])
     ·have htk1:(rk.map (clsOf C)).take q=rk.map (clsOf C):=List.take_of_length_le (by simp;omega);have htk2:(rj.map (clsOf C)).take q=rj.map (clsOf C):=List.take_of_length_le (by simp;omega);rw [htk1,htk2] at hb;have hbS:b=true↔S[j]?=some sk:=by
       rw [hb,hSj,←hsk];simp only [Bool.and_eq_true,decide_eq_true_eq,Option.some.injEq,List.cons.injEq];exact ⟨fun h=>⟨h.1.symm,h.2.symm⟩,fun h=>⟨h.1.symm,h.2.symm⟩⟩
      clear hb;cases b
      ·have hno:S[j]?≠some sk:=fun h=>by cases hbS.2 h
       refine hC.go [] 90 ?_;simp [hkn,hrk,hql];exact go_to [] (ihj ⟨(j+1,-1),hjk,.inl ⟨rfl,fun j' h=>by
        by_cases e:j'=j
        ·subst e;exact hno
        ·exact hat2 j' (by omega)⟩⟩ (by simp;omega)) (by simp [hwj])
      ·obtain ⟨g1,g2⟩:=hq3 (hbS.1 rfl);have hYv:Y[j]=((ixK sk A:Nat):Int):=by
        have:=hYD j hjk;rw [g1,List.getElem?_eq_getElem hYj] at this;exact Option.some.inj this
       refine hC.go [] 90 ?_;simp [hkn,hrk,hql,hYj,hYv];exact go_to [] (ihj ⟨(j+1,((ixK sk A:Nat):Int)),hjk,.inr ⟨g2,rfl⟩⟩ (by simp;omega)) (by simp [hwj])
    ·have hgo':¬((j:Int)<k∧at'<0):=fun h=>hgo ⟨by omega,h.2⟩;by_cases hm:sk∈A
     ·rw [if_pos hm] at ihk';simp only at ihk';rw [←z2] at ihk';have hix:at'=((ixK sk A:Nat):Int):=by
       rcases hat with ⟨h1,h2⟩|⟨_,h⟩
       ·obtain ⟨j',h3,h4⟩:=q4 sk hm;exact absurd h4 (h2 j' (by omega))
       ·exact h
      obtain ⟨ix,hixe⟩:∃n,ixK sk A=n:=⟨_,rfl⟩;rw [hixe] at hix ihk';subst hix;have hneg:¬(ix:Int)<0:=(by omega);by_cases hjk:j<k
      ·have hjkI:(j:Int)<k:=(by omega);refine hC.go [] 90 ?_;simp [hjkI,hneg];refine ⟨z3,?_⟩;refine hC.storeE (.can 1) (e:=3) (sz:=1) (inf:=infI) (es:=Y.map fun z=>[.val (.int .i64 z)]) (k:=k) (f:=0) (el:=[.val (.int .i64 0)]) [.val (.int .i64 (ix:Nat))] rfl (by simp [z1]) ?_;refine hC.go [] 90 ?_;simp;exact go_to [] ihk' (by simp [hwk,List.map_set])
      ·have hjkI:¬(j:Int)<k:=(by omega);refine hC.go [] 90 ?_;simp [hjkI,hneg];refine ⟨z3,?_⟩;refine hC.storeE (.can 1) (e:=3) (sz:=1) (inf:=infI) (es:=Y.map fun z=>[.val (.int .i64 z)]) (k:=k) (f:=0) (el:=[.val (.int .i64 0)]) [.val (.int .i64 (ix:Nat))] rfl (by simp [z1]) ?_;refine hC.go [] 90 ?_;simp;exact go_to [] ihk' (by simp [hwk,List.map_set])
     ·rw [if_neg hm] at ihk';simp only at ihk';rw [←z2'] at ihk';have hix:at' = -1:=by
       rcases hat with ⟨h1,_⟩|⟨h,_⟩
       ·exact h1
       ·exact absurd h hm
      subst hix;have hjkI:¬(j:Int)<k:=fun h=>hgo ⟨by omega,by omega⟩;refine hC.go [] 90 ?_;simp [hjkI,hwA];refine ⟨z3,?_⟩;refine hC.storeE (.can 1) (e:=3) (sz:=1) (inf:=infI) (es:=Y.map fun z=>[.val (.int .i64 z)]) (k:=k) (f:=0) (el:=[.val (.int .i64 0)]) [.val (.int .i64 (A.length:Nat))] rfl (by simp [z1]) ?_;refine hC.go [] 90 ?_;simp;exact go_to [] ihk' (by simp [hwk,List.map_set])
   ·have hki:k=i:=(by omega);subst hki;simp only [Nat.sub_self,List.replicate_zero,List.append_nil];have hkI:¬(k:Int)<k:=(by omega);refine hC.go [] 90 ?_;simp [hkI];exact go_to [(.can 0,.nm (.can 1))] iht' (by simp [hwt])
  ·have hti:tt=i:=(by omega);subst hti;have hltI:¬(tt:Int)<tt:=(by omega);refine hC.go [] 90 ?_;simp [hltI]
abbrev finB (l:List Bool):Blk:=.row 4 1 (l.map fun b=>[.val (.bool b)])
abbrev keyC (C:List Int)(s:Nat):Int:=C.getD s 0
theorem keyC_eq (C:List Int)(s:Nat)(h:s<C.length):keyC C s=C[s]:=by simp [keyC,List.getD,h]
set_option maxRecDepth 20000 in
set_option maxHeartbeats 8000000 in
theorem h57 (Gl:Granted)(d:Au)(ht:Tot d)(h0:0<d.next.length)(hN:d.names.length≤1000)(hn:d.next.length≤16777216)(K:List Int)(hC0:K.length=d.next.length)(dead:Int)(hdead:dead<0∨∃m:Nat,dead=m∧m<d.next.length) :
 Fun Tryz.prog Gl 92 [.pv (namesV d.names),.pv (ints K),.pv (finV d.final),.pv (rowsV d.next),vI dead] [] (numbered (cutD d K dead) K).av []:=by
 have hfl:=ht.fin;obtain ⟨D,hD⟩:∃D,cutD d K dead=D:=⟨_,rfl⟩;have hlim:Lim D:=hD ▸ ht.cut h0 K dead;have hDn:D.names=d.names:=by rw [←hD];rfl
 have hDf:D.final=d.final:=by rw [←hD];rfl
 have hDl:D.next.length=d.next.length:=by rw [←hD];simp [cutD]
 have hDr:∀(s k:Nat) (hs:s<d.next.length) (hk:k<d.next[s].length) (p:Nat),d.next[s][k]=(p:Int)→p<K.length→(nextN D s)[k]?=some (if 0≤dead∧K.getD p 0=K.getD dead.toNat 0 then none else some p):=fun s k hs hk p hp hpl=>by
  have e1:D.next[s]?=some (d.next[s].map fun t=>if 0≤dead∧K.getD t.toNat 0=K.getD dead.toNat 0 then -1 else t):=by rw [←hD];simp [cutD,hs]
  have e2:(d.next[s].map fun t=>if 0≤dead∧K.getD t.toNat 0=K.getD dead.toNat 0 then -1 else t)[k]?=some (if 0≤dead∧K.getD p 0=K.getD dead.toNat 0 then -1 else (p:Int)):=by
   rw [List.getElem?_map,List.getElem?_eq_getElem hk,hp];simp
  rw [nextN_get e1 e2];split
  ·rfl
  ·have:¬(p:Int)<0:=(by omega);simp [this]
 have hDk:∀s (hs:s<d.next.length),(nextN D s).length=d.names.length:=fun s hs=>by
  have e1:D.next[s]?=some (d.next[s].map fun t=>if 0≤dead∧K.getD t.toNat 0=K.getD dead.toNat 0 then -1 else t):=by rw [←hD];simp [cutD,hs]
  rw [nextN_len e1,List.length_map,(ht.row _ (List.getElem_mem hs)).1]
 have hnumb:(numbered D K).av = .agg [.pv (namesV d.names),.pv (rowsV (numM D K D.next.length).2),.pv (finV ((numM D K D.next.length).1.map fun s=>d.final.getD s false))]:=by
  simp only [numbered,Au.av,Au.cells,hDn,hDf]
 rw [hD,hnumb,hDl];have hof:=num_of hlim K;have hle:=num_len hlim K;rw [hDl] at hof hle;clear hD hDn hDf hDl hnumb hlim;generalize hNe:d.names=N at hN hDk;obtain ⟨n,hnn⟩:∃n,d.next.length=n:=⟨_,rfl⟩;rw [hnn] at hfl hn hof hle h0 hC0 hdead;simp only [hnn];refine fun_of (T:=T5) (n:=113) (rs:=[.cell 10 118]) Tryz.func92 (by kernel_rfl) rfl rfl rfl tok5 mixed (by simp) fun C hC=>?_;refine hC.go [21] 90 ?_;simp;refine go_loop (ι:={i:Nat // i≤n∧i≤(numM D K i).1.length}) (fun x=>⟨[(0,.pv (namesV N)),(1,.pv (ints K)),(2,.pv (finV d.final)),(3,.pv (rowsV d.next)),(4,vI dead),(10,.ptr (.loc 10) 0),(11,.ptr (.loc 11) 0),(12,.own (.can 0)),(13,vI x.1)],
  [(.loc 10,some (.box 118 [nm0,nm0,nm0])),(.loc 11,some (.box 118 [.pv (namesV N),.own (.can 1),.own (.can 2)])),(.can 0,some (natsB (numM D K x.1).1)),(.can 1,some (rowsB (numM D K x.1).2)),(.can 2,some (finB (((numM D K x.1).1.take x.1).map fun s=>d.final.getD s false)))]⟩)
  (fun x=>n-x.1) ⟨0,by simp⟩ [(.can 0,.nm (.loc 21)),(.can 1,.nil),(.can 2,.nil)] (by simp [num_first]) fun x ih=>?_
 obtain ⟨i,hi,hi2⟩:=x;simp only at ih;by_cases hlt:i<(numM D K i).1.length
 ·have hle1:=hle (i+1);have hle0:=hle i;have hrows:=num_rows D K i hi2;obtain ⟨m1,hpre⟩:=num_pre D K i;have ih':=ih ⟨i+1,by omega,by rw [hpre,List.length_append];omega⟩ (by simp;omega);obtain ⟨s,hs⟩:∃s,(numM D K i).1[i]=s:=⟨_,rfl⟩;have hsn:=hof i s (by rw [←hs];simp);have hstep:=num_step D K i s (by rw [List.getElem?_eq_getElem hlt,hs]);have hnd:=num_nodup D K i;have hofi:=hof i;rw [hstep] at hle1 hpre;simp only at hle1 hpre;simp only [hstep] at ih';simp only [hpre] at ih';rw [show ((numM D K i).1++m1).take (i+1)=(numM D K i).1.take i++[s] by rw [List.take_append_of_le_length (by omega),List.take_add_one,List.getElem?_eq_getElem hlt,hs];rfl] at ih';rw [←hpre] at ih';dsimp only at ih' ⊢;clear hstep ih hle;generalize numM D K i=M at hlt hs ih' hnd hofi hrows hle0 hle1 hpre hi2;obtain ⟨A,R⟩:=M;simp only at hlt hs ih' hnd hofi hrows hle0 hle1 hpre hi2;have hw1:=wr64 ((i:Int)+1) (by omega);have hsd:s<d.next.length:=by omega
  have hrl:=(ht.row _ (List.getElem_mem hsd));have hlen:=hDk s hsd;have hDs:=fun k hk p=>hDr s k hsd hk p;rw [hnn] at hrl;obtain ⟨r,hr⟩:∃r,d.next[s]=r:=⟨_,rfl⟩;simp only [hr] at hrl hDs;rw [hNe] at hrl;clear hDr hDk;generalize nextN D s=l at ih' hlen hDs hle1 hpre;generalize hfin:(A.take i).map (fun s=>d.final.getD s false)=fs at ih';have hfsl:fs.length=i:=by rw [←hfin,List.length_map,List.length_take];omega
  have hfs:d.final.getD s false=d.final[s]'(by omega):=by simp [List.getD,show s<d.final.length by omega]
  rw [List.map_append,hfin] at ih';simp only [List.map_cons,List.map_nil,hfs] at ih';simp only [hfin];refine hC.go [] 90 ?_;simp [hlt];refine hC.makeRow (e:=3) (inf:=infI) N.length rfl rfl (by simp;omega) ?_;refine hC.go [] 90 ?_;simp;have hnil:(List.replicate N.length (0:Int))=([]:List Int)++List.replicate (N.length-0) 0:=by simp
  refine go_loop (ι:={k:Nat // k≤N.length}) (fun x=>⟨[(0,.pv (namesV N)),(1,.pv (ints K)),(2,.pv (finV d.final)),(3,.pv (rowsV d.next)),(4,vI dead),(10,.ptr (.loc 10) 0),(11,.ptr (.loc 11) 0),(12,.own (.can 0)),(13,vI i),(14,.own (.can 3)),(15,vI x.1)],
   [(.loc 10,some (.box 118 [nm0,nm0,nm0])),(.loc 11,some (.box 118 [.pv (namesV N),.own (.can 1),.own (.can 2)])),(.can 0,some (natsB (rowQ (keyC K) A l x.1).1)),(.can 1,some (rowsB R)),(.can 2,some (finB fs)),(.can 3,some (intsB ((rowQ (keyC K) A l x.1).2++List.replicate (N.length-x.1) 0)))]⟩)
   (fun x=>N.length-x.1) ⟨0,Nat.zero_le _⟩ [(.can 3,.nm (.loc 30))] (by simp [rowQ_zero]) fun x ihk=>?_
  obtain ⟨k,hk⟩:=x;simp only at hk ihk;obtain ⟨q1,q2,q3,m2,q4,q5⟩:=rowQ_facts (keyC K) (l:=l) hnd k (by omega);have q3':(rowQ (keyC K) A l k).1.length≤n:=Nat.le_trans q3 hle1;have hlx:∀x,some x∈l→x<n:=fun x hx=>by
   obtain ⟨j,hj⟩:=List.getElem?_of_mem hx;have hjl:=(List.getElem?_eq_some_iff.1 hj).1;have hjr:j<r.length:=(by omega);obtain ⟨p,e,hp⟩:=hrl.2 r[j] (by simp);have:=hDs j hjr p e (by omega);rw [hj] at this;split at this
   ·cases this
   ·cases this;exact hp
  have qof:∀x∈(rowQ (keyC K) A l k).1,x<n:=fun x hx=>by
   rw [q4] at hx;rcases List.mem_append.1 hx with hx|hx
   ·exact hofi x hx
   ·exact hlx x (q5 x hx)
  have hAi:(rowQ (keyC K) A l k).1[i]?=some s:=by rw [q4,List.getElem?_append_left hlt,List.getElem?_eq_getElem hlt,hs]
  by_cases hkl:k<N.length
  ·have hwk:=wr64 ((k:Int)+1) (by omega);have ihk':=ihk ⟨k+1,hkl⟩ (by simp;omega);have hkr:k<r.length:=(by omega);obtain ⟨p,hp,hpn⟩:=hrl.2 r[k] (by simp);have hpC:p<K.length:=(by omega);have hlk:=hDs k hkr p hp hpC;have hkp:K.getD p 0=K[p]:=(by simp [List.getD,hpC]);obtain ⟨z1,_⟩:=zset (rowQ (keyC K) A l k).2 k N.length q2 hkl (0:Int) (0:Int);have hz:=fun v=>(zset (rowQ (keyC K) A l k).2 k N.length q2 hkl (0:Int) v).2;have z3:k<((rowQ (keyC K) A l k).2++List.replicate (N.length-k) (0:Int)).length:=(by rw [List.length_append,List.length_replicate];omega);clear ih' ihk;by_cases hc:0≤dead∧K.getD p 0=K.getD dead.toNat 0
   ·rw [if_pos hc] at hlk;simp only [rowQ_none (keyC K) hlk] at ihk';rw [←hz] at ihk';generalize (rowQ (keyC K) A l k).2++List.replicate (N.length-k) (0:Int)=Y at z1 z3 hz ihk';generalize (rowQ (keyC K) A l k).1=A' at q1 q3' qof hAi ihk' q4;obtain ⟨m,hm,hmn⟩:∃m:Nat,dead=m∧m<n:=hdead.resolve_left (by omega);have hmC:m<K.length:=(by omega);have hKe:K[p]=K[m]:=by
     have:=hc.2;rw [hkp,hm,Int.toNat_natCast] at this;rw [this];simp [List.getD,hmC]
    have hiA:=(List.getElem?_eq_some_iff.1 hAi).1;have hAe:A'[i]=s:=(List.getElem?_eq_some_iff.1 hAi).2;have hge:(0:Int)≤m:=(by omega);refine hC.go [] 90 ?_;simp [hkl,hiA,hAe,hsd,hr,hkr,hp];refine hC.drawn (by kernel_rfl) (by simp) ?_;refine hC.go [] 90 ?_;simp [hpC,hm,hmC,hKe,z3];refine hC.storeE (.can 3) (e:=3) (sz:=1) (inf:=infI) (es:=Y.map fun z=>[.val (.int .i64 z)]) (k:=k) (f:=0) (el:=[.val (.int .i64 0)]) [.val (.int .i64 (-1))] rfl (by simp [z1]) ?_;refine hC.go [] 90 ?_;simp;exact go_to [] ihk' (by simp [hwk,List.map_set,hm])
   ·rw [if_neg hc] at hlk;simp only [rowQ_some (keyC K) hlk] at ihk';generalize hYe:(rowQ (keyC K) A l k).2++List.replicate (N.length-k) (0:Int)=Y at z1 z3 hz;generalize rowQ (keyC K) A l k=Q at q1 q2 q3 q3' q4 qof hAi ihk' hz hYe;obtain ⟨A',Z⟩:=Q;simp only at q1 q2 q3 q3' q4 qof hAi ihk' hz hYe;have hiA:=(List.getElem?_eq_some_iff.1 hAi).1;have hAe:A'[i]=s:=(List.getElem?_eq_some_iff.1 hAi).2;refine hC.til [1012] [] 90 ?_;simp [hkl,hiA,hAe,hsd,hr,hkr,hp];refine go_cut (ι:=Unit) (fun _=>⟨[(0,.pv (namesV N)),(1,.pv (ints K)),(2,.pv (finV d.final)),(3,.pv (rowsV d.next)),(4,vI dead),(10,.ptr (.loc 10) 0),(11,.ptr (.loc 11) 0),(12,.own (.can 0)),(13,vI i),(14,.own (.can 3)),(15,vI k),(16,vI p),(17,vI (-1))],
     [(.loc 10,some (.box 118 [nm0,nm0,nm0])),(.loc 11,some (.box 118 [.pv (namesV N),.own (.can 1),.own (.can 2)])),(.can 0,some (natsB A')),(.can 1,some (rowsB R)),(.can 2,some (finB fs)),(.can 3,some (intsB Y))]⟩) (fun _=>?_) (fun tail=>?_)
    ·refine hC.go [] 90 ?_;simp;refine go_loop (ι:={x:Nat × Int // x.1≤A'.length∧((x.2 = -1∧∀m (hm:m<A'.length),m<x.1→keyC K A'[m]≠keyC K p)∨∃m:Nat,x.2=m∧(A'.map (keyC K))[m]?=some (keyC K p))})
      (fun x=>⟨[(0,.pv (namesV N)),(1,.pv (ints K)),(2,.pv (finV d.final)),(3,.pv (rowsV d.next)),(4,vI dead),(10,.ptr (.loc 10) 0),(11,.ptr (.loc 11) 0),(12,.own (.can 0)),(13,vI i),(14,.own (.can 3)),(15,vI k),(16,vI p),(17,vI x.1.2),(18,vI x.1.1)],
     [(.loc 10,some (.box 118 [nm0,nm0,nm0])),(.loc 11,some (.box 118 [.pv (namesV N),.own (.can 1),.own (.can 2)])),(.can 0,some (natsB A')),(.can 1,some (rowsB R)),(.can 2,some (finB fs)),(.can 3,some (intsB Y))]⟩) (fun x=>A'.length-x.1.1) ⟨(0,-1),by simp⟩ [] (by simp) fun x ihs=>?_
     obtain ⟨⟨j,at'⟩,hj,hat⟩:=x;simp only at hj hat ihs;by_cases hjl:j<A'.length
     ·have hwj:=wr64 ((j:Int)+1) (by omega);have hxn:=qof A'[j] (by simp);have hxK:A'[j]<K.length:=(by omega);have hkx:=keyC_eq K A'[j] hxK;have hkpe:=keyC_eq K p hpC;refine hC.go [] 90 ?_;simp [hjl];refine hC.drawn (by kernel_rfl) (by simp) ?_;by_cases he:K[A'[j]]=K[p]
      ·refine hC.go [] 90 ?_;simp [hjl,hxK,hpC,he];exact go_to [] (ihs ⟨(j+1,(j:Int)),hjl,.inr ⟨j,rfl,by rw [List.getElem?_map,List.getElem?_eq_getElem hjl,Option.map_some,hkx,hkpe,he]⟩⟩ (by simp;omega)) (by simp [hwj])
      ·refine hC.go [] 90 ?_;simp [hjl,hxK,hpC,he];exact go_to [] (ihs ⟨(j+1,at'),hjl,hat.imp (fun h=>⟨h.1,fun m hm hlt=>by
        by_cases e:m=j
        ·subst e;rw [hkx,hkpe];exact he
        ·exact h.2 m hm (by omega)⟩) id⟩ (by simp;omega)) (by simp [hwj])
     ·by_cases hm:keyC K p∈A'.map (keyC K)
      ·rw [if_pos hm] at ihk';simp only at ihk';have hix:at'=((ixK (keyC K p) (A'.map (keyC K)):Nat):Int):=by
        rcases hat with ⟨_,h⟩|⟨m,h1,h2⟩
        ·obtain ⟨m,hml,e⟩:=List.getElem_of_mem hm;rw [List.getElem_map] at e;have hml':m<A'.length:=(by simpa using hml);exact absurd e (h m hml' (by omega))
        ·rw [h1,ixK_nodup q1 h2]
       obtain ⟨ix,hixe⟩:∃n,ixK (keyC K p) (A'.map (keyC K))=n:=⟨_,rfl⟩;rw [hixe] at hix ihk';subst hix;have hneg:¬(ix:Int)<0:=(by omega);rw [←hz] at ihk';refine hC.go [] 90 ?_;simp [hjl,hneg,z3];refine hC.storeE (.can 3) (e:=3) (sz:=1) (inf:=infI) (es:=Y.map fun z=>[.val (.int .i64 z)]) (k:=k) (f:=0) (el:=[.val (.int .i64 0)]) [.val (.int .i64 (ix:Nat))] rfl (by simp [z1]) ?_;refine hC.go [] 90 ?_;simp;exact go_to [] ihk' (by simp [hwk,List.map_set])
      ·rw [if_neg hm] at ihk';simp only at ihk';have hix:at' = -1:=by
        rcases hat with ⟨h,_⟩|⟨m,h1,h2⟩
        ·exact h
        ·exact absurd (List.mem_of_getElem? h2) hm
       subst hix;rw [←hz] at ihk';refine hC.go [] 90 ?_;simp [hjl];refine ⟨by omega,z3,?_⟩;refine hC.storeE (.can 3) (e:=3) (sz:=1) (inf:=infI) (es:=Y.map fun z=>[.val (.int .i64 z)]) (k:=k) (f:=0) (el:=[.val (.int .i64 0)]) [.val (.int .i64 (A'.length:Nat))] rfl (by simp [z1]) ?_;refine hC.go [] 90 ?_;simp;exact go_to [(.can 0,.nm (.loc 89))] ihk' (by simp [hwk,List.map_set])
    ·refine hC.go [] 1 ?_;simp;refine hC.drawn (by kernel_rfl) (by simp) ?_;rcases hdead with hd|⟨m,hm,hmn⟩
     ·have hd':¬(0:Int)≤dead:=(by omega);refine hC.til [1014] [] 90 ?_;simp [hd'];exact go_to [] (tail ()) (by simp)
     ·have hmC:m<K.length:=(by omega);have hKe:¬K[p]=K[m]:=fun e=>hc ⟨by omega,by rw [hkp,hm,Int.toNat_natCast,e];simp [List.getD,hmC]⟩;have hge:(0:Int)≤m:=(by omega);refine hC.til [1014] [] 90 ?_;simp [hpC,hm,hmC,hKe];exact go_to [] (tail ()) (by simp [hm])
  ·have hkN:k=N.length:=(by omega);subst hkN;rw [←rowQ_all,hlen] at ih';clear ihk qof q1 q3 q3' q4 q5;generalize rowQ (keyC K) A l N.length=Q at ih' q2 hAi;obtain ⟨A',Z⟩:=Q;simp only at ih' q2 hAi;have hiA:=(List.getElem?_eq_some_iff.1 hAi).1;have hAe:A'[i]=s:=(List.getElem?_eq_some_iff.1 hAi).2;have hsf:s<d.final.length:=(by omega);simp only [Nat.sub_self,List.replicate_zero,List.append_nil];refine hC.til [23] [] 90 ?_;simp;refine go_to (M:=⟨[(0,.pv (namesV N)),(1,.pv (ints K)),(2,.pv (finV d.final)),(3,.pv (rowsV d.next)),(4,vI dead),(10,.ptr (.loc 10) 0),(11,.ptr (.loc 11) 0),(12,.own (.can 0)),(13,vI i),(14,.pv (ints Z))],
    [(.loc 10,some (.box 118 [nm0,nm0,nm0])),(.loc 11,some (.box 118 [.pv (namesV N),.own (.can 1),.own (.can 2)])),(.can 0,some (natsB A')),(.can 1,some (rowsB R)),(.can 2,some (finB fs))]⟩) [] ?_ (by simp)
   refine hC.go [] 90 ?_;simp;refine ⟨by omega,?_⟩;refine hC.go [] 90 ?_;simp;refine hC.drawn (by kernel_rfl) (by simp) ?_;refine hC.go [] 90 ?_;simp [hiA,hAe,hsf];refine ⟨by omega,?_⟩;refine hC.go [] 90 ?_;simp;exact go_to [(.can 1,.nm (.loc 98)),(.can 2,.nm (.loc 110))] ih' (by simp [hw1])
 ·have hin:i=(numM D K i).1.length:=by omega
  rw [num_end D K i n (by omega) hi] at hC;have htk:(numM D K i).1.take i=(numM D K i).1:=List.take_of_length_le (by omega);simp only [htk];refine hC.go [] 90 ?_;simp [hlt,Au.av,Au.cells]
end Go.Proofs.D
