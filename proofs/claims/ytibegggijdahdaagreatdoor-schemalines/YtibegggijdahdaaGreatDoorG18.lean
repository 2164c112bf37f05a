/-
  THE ANSWER'S LEAST ROW that tells two apart: a pair that is met, or a new one.
-/
import Derived.Test.YtibegggijdahdaaGreatDoorZ5
import Derived.Test.YtibegggijdahdaaGreatDoorG12
import Derived.Test.YtibegggijdahdaaGreatDoorG13
import Derived.Test.YtibegggijdahdaaGreatDoorG15
import Derived.Test.YtibegggijdahdaaGreatDoorAbsMB
import Derived.Test.YtibegggijdahdaaGreatDoorD36
set_option linter.unusedVariables false
set_option linter.unusedSimpArgs false
namespace Go.Proofs.D
open Go Go.Abs
def dig:Nat→Nat→Code→Option Code
 |0,_,_=>none
 |n+1,id,.seq x y=>if firstR 20 x=some id then some (.seq x y) else match dig n id x with|some c=>some c|none=>dig n id y
 |n+1,id,.block _ c=>dig n id c
 |n+1,id,.loop c=>dig n id c
 |_,_,_=>none
abbrev pairsB (w:List Way):Blk:=.row 158 1 (w.map fun q=>[ints [q.1.1,q.1.2]])
abbrev rowsWB (w:List Way):Blk:=.row 23 1 (w.map fun q=>[namesV q.2])
noncomputable def dig29 (id:Nat):Code:=match Tryz.f51.body with
 |some c=>(dig 200 id c).getD .ret
 |none=>.ret
theorem pair_eq (p:Int × Int)(z1 z2:Int):decide ([p.1,p.2] = [z1,z2])=decide ((z1,z2)=p):=by
 obtain ⟨p1,p2⟩:=p;rw [Bool.eq_iff_iff];simp only [decide_eq_true_eq,List.cons.injEq,and_true,Prod.mk.injEq];exact ⟨fun h=>⟨h.1.symm,h.2.symm⟩,fun h=>⟨h.1.symm,h.2.symm⟩⟩
def metTo (dead:Bool)(z:Int × Int)(ws:List Way)(j:Nat):Bool:=dead || decide (z∈(ws.take j).map (·.1))
theorem metTo_succ (dead:Bool)(z:Int × Int)(ws:List Way){j:Nat}(h:j<ws.length):metTo dead z ws (j+1)=(metTo dead z ws j || decide (z=ws[j].1)):=by
 unfold metTo;rw [List.take_add_one,List.getElem?_eq_getElem h,List.map_append,Bool.eq_iff_iff,Bool.or_eq_true,Bool.or_eq_true,Bool.or_eq_true];simp only [decide_eq_true_eq,List.mem_append,Option.toList_some,List.map_cons,List.map_nil,List.mem_singleton];exact or_assoc.symm
set_option maxRecDepth 20000 in
set_option maxHeartbeats 8000000 in
theorem h29k (Gl:Granted){a b:Au}{bad:Int→Int→Bool}{l:List ByteArray}{i k:Nat}{ws:List Way}{x y:Int}{w:Row}{z1 z2:Int}(hWk:Ways a b bad l i (l.take k) ws)(hwi:ws[i]?=some ((x,y),w))(hgood:bad x y=false)(hkl:k<l.length)(hsort:l.Pairwise blt)
 (hst:stp2 a b (x,y) l[k]=(z1,z2)) (hz1:z1 = -1∨0≤z1) (hz2:z2 = -1∨0≤z2) (hwsl:ws.length≤3200000000000) (hwl:w.length≤3200000000000) (one:Bool) {va:AV} {ops:Array Oper} {kk:List Item} {C:Ctx} (hC:Rd C Tryz.prog Gl T5 163 [.tmp 6,.tmp 7] va (keyed 0 []))
 (hk:∀ws',Ways a b bad l i (l.take (k+1)) ws'→ws'[i]?=some ((x,y),w)→Go.Abs.Go C (.top (.code (.region 19 ops false)::kk) ⟨[(2,vB one),(3,.ptr (.loc 3) 0),(4,.ptr (.loc 4) 0),(8,.pv (namesV l)),(10,.own (.can 0)),(11,.own (.can 1)),(12,vI i),(13,vI x),(14,vI y),(17,vI k)],[(.loc 3,some (.box 118 a.cells)),(.loc 4,some (.box 118 b.cells)),(.can 0,some (pairsB ws')),(.can 1,some (rowsWB ws'))]⟩)) :
 Go.Abs.Go C (.top (.code (dig29 21) :: .inBlock 5 :: .code (.region 19 ops false)::kk) ⟨[(2,vB one),(3,.ptr (.loc 3) 0),(4,.ptr (.loc 4) 0),(8,.pv (namesV l)),(10,.own (.can 0)),(11,.own (.can 1)),(12,vI i),(13,vI x),(14,vI y),(17,vI k),(18,.pv (ints [z1,z2]))],[(.loc 3,some (.box 118 a.cells)),(.loc 4,some (.box 118 b.cells)),(.can 0,some (pairsB ws)),(.can 1,some (rowsWB ws))]⟩):=by
 have hsplit:(l.take k++l[k]::l.drop (k+1)).Pairwise blt:=by rw [←List.drop_eq_getElem_cons hkl,List.take_append_drop];exact hsort
 have htake:l.take (k+1)=l.take k++[l[k]]:=by rw [List.take_add_one,List.getElem?_eq_getElem hkl];rfl
 have hil:=(List.getElem?_eq_some_iff.1 hwi).1;have hwi':ws[i]=((x,y),w):=(List.getElem?_eq_some_iff.1 hwi).2;show Go.Abs.Go C (.top (.code (.seq _ _)::_) _);refine go_cut (ι:=Unit) (fun _=>⟨[(2,vB one),(3,.ptr (.loc 3) 0),(4,.ptr (.loc 4) 0),(8,.pv (namesV l)),(10,.own (.can 0)),(11,.own (.can 1)),(12,vI i),(13,vI x),(14,vI y),(17,vI k),(18,.pv (ints [z1,z2])),(19,vB (decide (z1<0)&&decide (z2<0)))],[(.loc 3,some (.box 118 a.cells)),(.loc 4,some (.box 118 b.cells)),(.can 0,some (pairsB ws)),(.can 1,some (rowsWB ws))]⟩) (fun _=>?_) (fun tail=>?_)
 ·refine hC.go [] 90 ?_;simp;refine go_loop (ι:={j:Nat // j≤ws.length}) (fun x'=>⟨[(2,vB one),(3,.ptr (.loc 3) 0),(4,.ptr (.loc 4) 0),(8,.pv (namesV l)),(10,.own (.can 0)),(11,.own (.can 1)),(12,vI i),(13,vI x),(14,vI y),(17,vI k),(18,.pv (ints [z1,z2])),(19,vB (metTo (decide (z1<0)&&decide (z2<0)) (z1,z2) ws x'.1)),(20,vI x'.1)],[(.loc 3,some (.box 118 a.cells)),(.loc 4,some (.box 118 b.cells)),(.can 0,some (pairsB ws)),(.can 1,some (rowsWB ws))]⟩)
   (fun x'=>ws.length-x'.1) ⟨0,by simp⟩ [(.can 0,.nm (.can 0)),(.can 1,.nm (.can 1))] (by simp [metTo,Au.cells]) fun x' ih=>?_
  obtain ⟨j,hj⟩:=x';simp only at hj ih;dsimp only;generalize hdead:(decide (z1<0)&&decide (z2<0))=dead at ih;by_cases hjl:j<ws.length
  ·have hw1:=wr64 ((j:Int)+1) (by omega);have hnext:=metTo_succ dead (z1,z2) ws hjl;cases hm:metTo dead (z1,z2) ws j with
   |true=>
    have hm2:metTo dead (z1,z2) ws (j+1)=true:=(by rw [hnext,hm];rfl);refine hC.go [] 90 ?_;simp [hjl];exact go_to [(.can 0,.nm (.can 0)),(.can 1,.nm (.can 1))] (ih ⟨j+1,hjl⟩ (by simp;omega)) (by simp [hw1,hm2,Au.cells])
   |false=>
    have hm2:metTo dead (z1,z2) ws (j+1)=decide ((z1,z2)=ws[j].1):=(by rw [hnext,hm];rfl);have c61:=h61 Gl [ws[j].1.1,ws[j].1.2] [z1,z2];rw [pair_eq] at c61;refine hC.go [] 90 ?_;simp [hjl];refine hC.call [] c61 (by simp) ?_;refine hC.go [] 90 ?_;simp [hjl];exact go_to [(.can 0,.nm (.can 0)),(.can 1,.nm (.can 1))] (ih ⟨j+1,hjl⟩ (by simp;omega)) (by simp [hw1,hm2,Au.cells])
  ·have hmE:metTo dead (z1,z2) ws j=(dead || decide ((z1,z2)∈ws.map (·.1))):=by unfold metTo;rw [List.take_of_length_le (by omega)]
   cases hm:dead || decide ((z1,z2)∈ws.map (·.1)) with
   |true=>
    have hm':=hm;have hold:=ways_old hWk hsplit hwi hgood (by
     rw [hst];cases hd:dead with
     |true=>
      rw [hd] at hdead;simp at hdead;refine .inl ?_;rw [show z1 = -1 by omega,show z2 = -1 by omega]
     |false=>
      rw [hd] at hm;simp only [Bool.false_or,decide_eq_true_eq] at hm;exact .inr hm)
    rw [←htake] at hold;rw [hmE,hm'];refine hC.til [19] [] 90 ?_;simp [hjl];exact go_to [(.can 0,.nm (.can 0)),(.can 1,.nm (.can 1))] (hk ws hold hwi) (by simp [Au.cells])
   |false=>
    rw [hmE,hm];rw [Bool.or_eq_false_iff] at hm;obtain ⟨hd,hm⟩:=hm;simp only [decide_eq_false_iff_not] at hm;have hnew:=ways_new hWk hsplit (List.getElem_mem hkl) hwi hgood (by
     rw [hst];intro e;simp only [Prod.mk.injEq] at e;rw [hd,e.1,e.2] at hdead;revert hdead;decide) (by rw [hst];exact hm)
    rw [←htake] at hnew;have hwi2:(ws++[(stp2 a b (x,y) l[k],w++[l[k]])])[i]?=some ((x,y),w):=(by rw [List.getElem?_append_left hil];exact hwi);rw [hst] at hnew hwi2;have hk':=hk _ hnew hwi2;refine hC.til [28] [] 90 ?_;simp [hjl];refine ⟨by omega,?_⟩;refine hC.drawn (by kernel_rfl) (by simp [Au.cells]) ?_;refine hC.til [19] [149] 90 ?_;simp [hil,hwi',hkl,Au.cells];refine ⟨⟨by omega,by omega⟩,⟨by omega,by omega⟩,?_⟩;refine hC.buildLay (ty:=169) (t:=160) (r:=.loc 160) (e:=9) (sz:=1) (es:=(w++[l[k]]).map fun s=>[PV.val (.string s)]) rfl (by simp [Au.cells]) ?_;refine hC.til [19] [] 90 ?_;simp [Au.cells];refine hC.deep (fp:=[(.can 1,.row 23 1 (ws.map fun q=>[namesV q.2]))]) (A:=⟨.own (.loc 162),[(.can 1,none),(.loc 162,some (.row 23 1 ((ws.map fun q=>[namesV q.2])++[[.ro 1 ((w.map fun s=>[PV.val (.string s)])++[[PV.val (.string l[k])]])]])))]⟩)
     (p:=((ws.map fun q=>[namesV q.2]).length+1)*24≤140737488355328∧(ws.map fun q=>[namesV q.2]).length+1≤9223372036854775807) (by simp [Au.cells]) (by rw [List.length_map];omega) (by kernel_rfl) ?_
    refine hC.til [19] [] 90 ?_;simp [Au.cells];exact go_to [(.can 0,.nm (.loc 147)),(.can 1,.nm (.loc 162))] hk' (by simp [Au.cells])
 ·by_cases c1:z1<0
  ·by_cases c2:z2<0
   ·refine hC.til [1022] [] 90 ?_;simp [c1,c2];exact go_to [(.can 0,.nm (.can 0)),(.can 1,.nm (.can 1))] (tail ()) (by simp [c1,c2,Au.cells])
   ·refine hC.til [1022] [] 90 ?_;simp [c1,c2];exact go_to [(.can 0,.nm (.can 0)),(.can 1,.nm (.can 1))] (tail ()) (by simp [c1,c2,Au.cells])
  ·refine hC.til [1022] [] 90 ?_;simp [c1];exact go_to [(.can 0,.nm (.can 0)),(.can 1,.nm (.can 1))] (tail ()) (by simp [c1,Au.cells])
theorem setA_tot {r:Pr}{L:Row→Prop}(h:Good 0 r L)(hen:r.en≤23)(N:List ByteArray)(W:Nat)(hW:W=BW):Tot (setA r N W)∧0<(setA r N W).next.length∧(setA r N W).next.length≤W:=by
 have hM:Met id (fR r N) (beginR r) W (setM r N W).1 (setM r N W).2:=met_is _ _ _ _;have hlen:=setM_len h hen N W;have h0:=met_pos _ _ _ hM;have hrl:(setM r N W).2.length=(setM r N W).1.length:=(setM_facts h hen N W hW).1;rw [←hW] at hlen;refine ⟨⟨by simp [setA,hrl],fun x hx=>?_⟩,by simp only [setA];omega,by simp only [setA];omega⟩;simp only [setA] at hx ⊢;obtain ⟨k,hk⟩:=List.getElem?_of_mem hx;have hkl:=(List.getElem?_eq_some_iff.1 hk).1;obtain ⟨a,b⟩:=hM.row k ((setM r N W).1[k]'(by omega)) x (by simp) hk;refine ⟨by rw [a];simp [fR],fun t ht=>?_⟩;obtain ⟨j,hj⟩:=List.getElem?_of_mem ht;have hjl:=(List.getElem?_eq_some_iff.1 hj).1;rw [a] at hjl;have hjN:j<N.length:=by simpa [fR] using hjl
 obtain ⟨n,e1,e2⟩:=b j (some (nextR r N[j] ((setM r N W).1[k]'(by omega)))) t (by simp [fR,hjN]) hj;rw [List.map_id] at e2;exact ⟨n,e1,by rw [hrl];exact (List.getElem?_eq_some_iff.1 e2).1⟩
theorem wk_pl (e:E):Wk (plOf e):=pl_wk e ⟨[],[]⟩ ⟨rfl,fun b h=>by cases h⟩
theorem en_le {e:E}(hc:e.cnt≤24):(plOf e).en≤23∧e.leaves≤23:=by
 have hl:(plOf e).en=0+e.leaves:=(pl_len e ⟨[],[]⟩).1;have h23:e.leaves≤23:=by
  have h2:=leaves_le e;by_cases h:e.op=110
  ·have:e.leaves=1:=(by rw [leaves_eq,if_pos h]);omega
  ·rcases h2.2 with h2|h2<;>omega
 exact ⟨by omega,h23⟩
def au0:Au:=⟨[],[],[]⟩
theorem deadN_take (l:List (List Nat))(i:Nat)(hi:i<l.length)(k:Nat)(d:Int):deadN (l.take (i+1)) k d=if l[i].length=0 then ((k+i:Nat):Int) else deadN (l.take i) k d:=by
 induction l generalizing i k d with
 |nil=>simp at hi
 |cons S l ih=>
  cases i with
  |zero=>simp [deadN]
  |succ i=>
   simp only [List.take_succ_cons,deadN,List.getElem_cons_succ];rw [ih i (by simpa using hi) (k+1)];simp only [show k+1+i=k+(i+1) by omega]
theorem deadN_lt (l:List (List Nat)):deadN l 0 (-1)<0∨∃m:Nat,deadN l 0 (-1)=m∧m<l.length:=by
 rcases deadN_spec l 0 (-1) with ⟨e,_⟩|⟨j,e,h⟩
 ·exact .inl (by rw [e];decide)
 ·exact .inr ⟨j,by rw [e];simp,(List.getElem?_eq_some_iff.1 h).1⟩
set_option maxRecDepth 20000 in
set_option maxHeartbeats 8000000 in
theorem h27 (Gl:Granted)(e:E)(hs:e.small)(hc:e.right=true→e.cnt≤24)(W:Nat)(hW:W=BW) :
 Fun Tryz.prog Gl 50 [e.av] [] (if e.right=true then .tup [(refA e e.namesR W).av,vI 0] else .tup [au0.av,vI 2]) []:=by
 have hr:=f56 Gl e hs;have hBW:BW=16777216:=rfl;refine fun_of (T:=T5) (n:=81) (rs:=[.cell 2 118,.tmp 3]) Tryz.func50 (by kernel_rfl) rfl rfl rfl tok5 mixed (by simp) fun C hC=>?_;refine hC.go [] 90 ?_;simp [E.av,E.cells];refine hC.call [] hr (by simp [E.av,E.cells]) ?_;cases hright:e.right with
 |false=>
  rw [hright] at hC;refine hC.go [] 90 ?_;simp [E.cells,au0,Au.av,Au.cells]
 |true=>
  have hok:e.ok=true:=by simp [E.right] at hright;exact hright.2
  have hc24:=hc hright;obtain ⟨he1,he2⟩:=en_le hc24;rw [hright,if_pos rfl] at hC;obtain ⟨hg,_⟩:=pl_good e hok ⟨[],[]⟩ rfl;have hwk:=wk_pl e;have hcall:=h53 Gl e ⟨[],[]⟩ ⟨rfl,fun b h=>by cases h⟩ (by simp;omega) (by omega);have htot:=setA_tot hg (by exact he1) e.namesR W hW;have hlen:=setM_len hg (by exact he1) e.namesR;rw [hBW] at hW hlen;change FunO _ _ _ _ _ (plOf e).av _ [plN (plOf e).pl,plR (plOf e).pl] at hcall;change Tot (setA (plOf e) e.namesR W)∧0<(setA (plOf e) e.namesR W).next.length∧(setA (plOf e) e.namesR W).next.length≤W at htot;change ∀i,(setM (plOf e) e.namesR i).1.length≤16777216 at hlen;have hnl:=namesR_len e;have hsets:=h55 Gl (plOf e) hwk (by omega) e.namesR (by omega) W (fun i=>by have:=hlen i;omega) (by omega);have hnames:=g105 Gl e (by omega);have hcls:=h58 Gl (setA (plOf e) e.namesR W) htot.1 (by show e.namesR.length≤1000;omega) (by omega);have hnum:=h57 Gl (setA (plOf e) e.namesR W) htot.1 htot.2.1 (by show e.namesR.length≤1000;omega) (by omega) (clsN (setA (plOf e) e.namesR W) (setA (plOf e) e.namesR W).next.length) (clsN_len htot.1 _) (deadN (setM (plOf e) e.namesR W).1 0 (-1)) (by
   have:=deadN_lt (setM (plOf e) e.namesR W).1;rw [show (setA (plOf e) e.namesR W).next.length=(setM (plOf e) e.namesR W).1.length from htot.1.fin.symm.trans (by simp [setA])];exact this)
  have href:numbered (cutD (setA (plOf e) e.namesR W) (clsN (setA (plOf e) e.namesR W) (setA (plOf e) e.namesR W).next.length) (deadN (setM (plOf e) e.namesR W).1 0 (-1))) (clsN (setA (plOf e) e.namesR W) (setA (plOf e) e.namesR W).next.length)=refA e e.namesR W:=rfl;rw [href] at hnum;have hdd:=deadN_take (setM (plOf e) e.namesR W).1;have hMl:(setM (plOf e) e.namesR W).1.length≤16777216:=hlen W;have hsf:(setA (plOf e) e.namesR W).final=(setM (plOf e) e.namesR W).1.map (finR (plOf e)):=rfl;have hsn:(setA (plOf e) e.namesR W).next=(setM (plOf e) e.namesR W).2:=rfl;have hsN:(setA (plOf e) e.namesR W).names=e.namesR:=rfl;rw [hsf,hsn] at hcls hnum;rw [hsN] at hnum;clear href hg htot hlen hsf hsn hsN;generalize refA e e.namesR W=D at hC hnum;generalize clsN (setA (plOf e) e.namesR W) (setM (plOf e) e.namesR W).2.length=K at hcls hnum;have hfin:∀S,finR (plOf e) S=decide ((plOf e).en∈S):=fun _=>rfl;generalize setM (plOf e) e.namesR W=M at hsets hcls hnum hdd hMl;obtain ⟨A,R⟩:=M;simp only at hsets hcls hnum hdd hMl;have hkl:=kids_le e;generalize e.namesR=N at hnames hnum hsets hnl;generalize plOf e=r at *;have henE:r.pl.names.length=r.en:=rfl;refine hC.til [4] [] 90 ?_;simp [E.cells];refine go_to (M:=⟨[(1,.ptr (.loc 1) 0),(2,.ptr (.loc 2) 0),(4,.ptr (.loc 19) 0)],[(.loc 1,some (.box 69 e.cells)),(.loc 2,some (.box 118 [nm0,nm0,nm0])),(.loc 19,some (plB (.can 0) (.can 1))),(.can 0,some (plN ⟨[],[]⟩)),(.can 1,some (plR ⟨[],[]⟩))]⟩) [(.can 0,.nil),(.can 1,.nil)] ?_ (by simp [E.cells]);refine hC.go [] 90 ?_;simp [E.cells];refine hC.callO [.loc 19,.can 0,.can 1] [.can 2,.can 3] hcall (by simp [E.av,E.cells]) ?_;refine hC.til [8] [] 90 ?_;simp [E.cells];refine go_to (M:=⟨[(1,.ptr (.loc 1) 0),(2,.ptr (.loc 2) 0),(4,.ptr (.loc 19) 0)],[(.loc 1,some (.box 69 e.cells)),(.loc 2,some (.box 118 [nm0,nm0,nm0])),(.loc 19,some (plO r))]⟩) [] ?_ (by simp [E.cells]);refine hC.go [] 90 ?_;simp [E.cells];refine hC.call [] hnames (by simp [E.av,E.cells]) ?_;refine hC.go [] 90 ?_;simp [E.cells];refine hC.call [.loc 19] hsets (by simp [E.cells]) ?_;refine hC.go [] 90 ?_;simp [E.cells];refine go_loop (ι:={i:Nat // i≤A.length}) (fun x=>⟨[(2,.ptr (.loc 2) 0),(4,.ptr (.loc 19) 0),(8,.pv (namesV N)),(9,.pv (setsV A)),(10,.pv (rowsV R)),(11,.own (.can 0)),(12,vI (deadN (A.take x.1) 0 (-1))),(13,vI x.1)],
   [(.loc 2,some (.box 118 [nm0,nm0,nm0])),(.loc 19,some (plO r)),(.can 0,some (finB ((A.take x.1).map (finR r))))]⟩) (fun x=>A.length-x.1) ⟨0,Nat.zero_le _⟩ [(.can 0,.nil)] (by simp [deadN]) fun x ih=>?_
  obtain ⟨i,hi⟩:=x;simp only at ih;by_cases hlt:i<A.length
  ·have hw:=wr64 ((i:Int)+1) (by omega);have ih':=ih ⟨i+1,hlt⟩ (by simp;omega);have hmap:(A.take (i+1)).map (finR r)=(A.take i).map (finR r)++[decide (r.en∈A[i])]:=by
    rw [List.take_add_one,List.getElem?_eq_getElem hlt,List.map_append];simp only [Option.toList_some,List.map_cons,List.map_nil,hfin]
   simp only [hdd i hlt,hmap,Nat.zero_add] at ih';obtain ⟨S,hS⟩:∃S,A[i]=S:=⟨_,rfl⟩;rw [hS] at ih';refine hC.go [] 90 ?_;simp [hlt];refine hC.drawn (by kernel_rfl) (by simp) ?_;refine hC.go [] 90 ?_;simp [hlt,hS];refine hC.call [] (h56 Gl S r.en) (by simp [plO,henE]) ?_;by_cases hS0:S.length=0
   ·rw [if_pos hS0] at ih';refine hC.go [] 90 ?_;simp [hlt,hS,hS0];refine ⟨by omega,?_⟩;exact go_to [(.can 0,.nm (.loc 65))] ih' (by simp [hw])
   ·have hSI:¬(S.length:Int)=0:=(by omega);rw [if_neg hS0] at ih';refine hC.go [] 90 ?_;simp [hlt,hS,hS0,hSI];refine ⟨by omega,?_⟩;exact go_to [(.can 0,.nm (.loc 65))] ih' (by simp [hw])
  ·have htk:A.take i=A:=List.take_of_length_le (by omega);simp only [htk];refine hC.til [18] [] 90 ?_;simp [hlt];refine go_to (M:=⟨[(2,.ptr (.loc 2) 0),(8,.pv (namesV N)),(10,.pv (rowsV R)),(11,.pv (finV (A.map (finR r)))),(12,vI (deadN A 0 (-1)))],[(.loc 2,some (.box 118 [nm0,nm0,nm0]))]⟩) [] ?_ (by simp);refine hC.go [] 90 ?_;simp;refine hC.call [] hcls (by simp) ?_;refine hC.go [] 90 ?_;simp;refine hC.call [] hnum (by simp [Au.av,Au.cells,AV.ments,AV.ments.mentsL]) ?_;refine hC.go [] 90 ?_;simp [Au.av,Au.cells]
set_option maxRecDepth 20000 in
set_option maxHeartbeats 8000000 in
theorem h29 (Gl:Granted){a b:Au}{La Lb:Nat→Row→Prop}(ha:Least a La)(hb:Least b Lb){e f:E}(he:e.cnt≤24)(hf:f.cnt≤24)(hoe:e.ok=true)(hof:f.ok=true)(h1:∀w,La 0 w↔e.L w)(h2:∀w,Lb 0 w↔f.L w)
 (hna:a.names.Pairwise blt) (hla:a.names.length≤1000) (hlb:b.names.length≤1000) (one:Bool) :
 Fun Tryz.prog Gl 51 [a.av,b.av,vB one] [] (.tup [.pv (namesV (apartR e f (!one)).1),vB (apartR e f (!one)).2]) []:=by
 have hfl:∀(m l:List ByteArray),(m.foldl putR l).length≤l.length+m.length:=fun m l=>fold_len m l;have hsort:=fold_sorted b.names hna;have hmem:∀x,x∈b.names.foldl putR a.names↔x∈a.names∨x∈b.names:=fun x=>fold_mem x b.names a.names;have hNl:=hfl b.names a.names;refine fun_of (T:=T5) (n:=163) (rs:=[.tmp 6,.tmp 7]) Tryz.func51 (by kernel_rfl) rfl rfl rfl tok5 mixed (by simp) fun C hC=>?_;refine hC.go [] 90 ?_;simp [Au.av,Au.cells];refine go_loop (ι:={x:Nat × List ByteArray // x.1≤b.names.length∧(b.names.drop x.1).foldl putR x.2=b.names.foldl putR a.names∧x.2.length≤a.names.length+x.1}) (fun x=>⟨[(2,vB one),(3,.ptr (.loc 3) 0),(4,.ptr (.loc 4) 0),(8,.pv (namesV x.1.2)),(9,vI x.1.1)],[(.loc 3,some (.box 118 a.cells)),(.loc 4,some (.box 118 b.cells))]⟩)
  (fun x=>b.names.length-x.1.1) ⟨(0,a.names),by simp⟩ [] (by simp [Au.cells]) fun x ih=>?_
 obtain ⟨⟨i,l⟩,hi,hl,hll⟩:=x;simp only at hi hl hll ih;by_cases hlt:i<b.names.length
 ·have hw:=wr64 ((i:Int)+1) (by omega);rw [List.drop_eq_getElem_cons hlt,List.foldl_cons] at hl;have hpl:=putR_len l b.names[i];refine hC.go [] 90 ?_;simp [hlt,Au.cells];refine hC.call [] (g138 Gl l b.names[i] (by omega)) (by simp) ?_;refine hC.go [] 90 ?_;simp;exact go_to [] (ih ⟨(i+1,putR l b.names[i]),hlt,hl,by dsimp only;omega⟩ (by simp;omega)) (by simp [hw,Au.cells])
 ·rw [List.drop_eq_nil_of_le (by omega),List.foldl_nil] at hl;rw [←hl] at hsort hmem hNl;dsimp only;have hbnd:=fun (i:Nat) (done:List ByteArray) (ways:List Way) (h:Ways a b (badP a b (!one)) l i done ways)=>ways_len h ha hb he hf hoe hof h1 h2;have hfound:=fun (i:Nat) (ways:List Way) (p:Way) (h:Ways a b (badP a b (!one)) l i [] ways) (hp:ways[i]?=some p) (hbad:badP a b (!one) p.1.1 p.1.2=true)=>apart_found ha hb h1 h2 (names:=l) hmem h hp hbad;have hnone:=fun (i:Nat) (ways:List Way) (h:Ways a b (badP a b (!one)) l i [] ways) (hi:ways.length≤i)=>apart_none ha hb h1 h2 (names:=l) hmem h hi;obtain ⟨B,hB,hB2⟩:∃B,PB=B∧B≤3200000000000:=⟨_,rfl,Nat.le_refl _⟩;rw [hB] at hbnd;refine hC.til [8] [38,39] 90 ?_;simp [hlt,Au.cells];refine go_blk (.loc 39) (.row 23 1 [[.ro 0 []]]) (.row 23 1 [[.ro 1 []]]) (by simp) (fun w F hd h=>hold_last (es:=[]) h) ?_;refine hC.go [] 90 ?_;simp;refine go_loop (ι:={x:Nat × List Way // x.1≤x.2.length∧Ways a b (badP a b (!one)) l x.1 [] x.2}) (fun x=>⟨[(2,vB one),(3,.ptr (.loc 3) 0),(4,.ptr (.loc 4) 0),(8,.pv (namesV l)),(10,.own (.can 0)),(11,.own (.can 1)),(12,vI x.1.1)],
   [(.loc 3,some (.box 118 a.cells)),(.loc 4,some (.box 118 b.cells)),(.can 0,some (pairsB x.1.2)),(.can 1,some (rowsWB x.1.2))]⟩)
   (fun x=>B-x.1.1) ⟨(0,[((0,0),[])]),by simp,ways_start a b _ l⟩ [(.can 0,.nm (.loc 38)),(.can 1,.nm (.loc 39))] (by simp [Au.cells]) fun x ih=>?_
  obtain ⟨⟨i,ways⟩,hi,hW⟩:=x;simp only at hi hW ih;have hwl:=hbnd i [] ways hW;have hrowl:=ways_row hW;by_cases hlt2:i<ways.length
  ·obtain ⟨q,hq⟩:∃q,ways[i]=q:=⟨_,rfl⟩;have hq':ways[i]?=some q:=(by rw [List.getElem?_eq_getElem hlt2,hq]);have hat:=(hW.at' q (List.mem_of_getElem? hq')).1;have hsx:=(sem_run ha.sem.toSem0 q.2 (st0 ha.sem.toSem0)).1;have hsy:=(sem_run hb.sem.toSem0 q.2 (st0 hb.sem.toSem0)).1;have hql:=hrowl i q hq';obtain ⟨⟨x,y⟩,w⟩:=q;simp only [pr,Prod.mk.injEq] at hat hsx hsy hql;rw [←hat.1] at hsx;rw [←hat.2] at hsy;have hfa:=ha.sem.len;have hfb:=hb.sem.len;refine hC.til [1013] [] 90 ?_;simp [hlt2,hq];refine go_cut (ι:=Unit) (fun _=>⟨[(2,vB one),(3,.ptr (.loc 3) 0),(4,.ptr (.loc 4) 0),(8,.pv (namesV l)),(10,.own (.can 0)),(11,.own (.can 1)),(12,vI i),(13,vI x),(14,vI y),(15,vB (a.acc x))],[(.loc 3,some (.box 118 a.cells)),(.loc 4,some (.box 118 b.cells)),(.can 0,some (pairsB ways)),(.can 1,some (rowsWB ways))]⟩) (fun _=>?_) (fun tail=>?_)
   ·refine go_cut (ι:=Unit) (fun _=>⟨[(2,vB one),(3,.ptr (.loc 3) 0),(4,.ptr (.loc 4) 0),(8,.pv (namesV l)),(10,.own (.can 0)),(11,.own (.can 1)),(12,vI i),(13,vI x),(14,vI y),(15,vB (a.acc x)),(16,vB (b.acc y))],[(.loc 3,some (.box 118 a.cells)),(.loc 4,some (.box 118 b.cells)),(.can 0,some (pairsB ways)),(.can 1,some (rowsWB ways))]⟩) (fun _=>?_) (fun tail=>?_)
    ·refine go_cut (ι:=PLift (badP a b (!one) x y=false)) (fun _=>⟨[(2,vB one),(3,.ptr (.loc 3) 0),(4,.ptr (.loc 4) 0),(8,.pv (namesV l)),(10,.own (.can 0)),(11,.own (.can 1)),(12,vI i),(13,vI x),(14,vI y)],[(.loc 3,some (.box 118 a.cells)),(.loc 4,some (.box 118 b.cells)),(.can 0,some (pairsB ways)),(.can 1,some (rowsWB ways))]⟩) (fun z=>?_) (fun tail=>?_)
     ·obtain ⟨hgood⟩:=z;refine hC.go [] 90 ?_;simp;refine go_loop (ι:={z:Nat × List Way // z.1≤l.length∧Ways a b (badP a b (!one)) l i (l.take z.1) z.2∧z.2[i]?=some ((x,y),w)}) (fun z=>⟨[(2,vB one),(3,.ptr (.loc 3) 0),(4,.ptr (.loc 4) 0),(8,.pv (namesV l)),(10,.own (.can 0)),(11,.own (.can 1)),(12,vI i),(13,vI x),(14,vI y),(17,vI z.1.1)],[(.loc 3,some (.box 118 a.cells)),(.loc 4,some (.box 118 b.cells)),(.can 0,some (pairsB z.1.2)),(.can 1,some (rowsWB z.1.2))]⟩)
       (fun z=>l.length-z.1.1) ⟨(0,ways),by simp,by simpa using hW,hq'⟩ [] (by simp [Au.cells]) fun z ihk=>?_
      obtain ⟨⟨k,ws⟩,hk,hWk,hwi⟩:=z;simp only at hk hWk hwi ihk;have hwsl:=hbnd i _ ws hWk;by_cases hkl:k<l.length
      ·have hwk:=wr64 ((k:Int)+1) (by omega);refine hC.go [] 90 ?_;simp [hkl];refine hC.drawn (by kernel_rfl) (by simp [Au.cells]) ?_;refine hC.go [] 90 ?_;simp [hkl,Au.cells];refine hC.call [] (h60 Gl a ha.sem.row x l[k]) (by simp [Au.av,Au.cells]) ?_;refine hC.go [] 90 ?_;simp [hkl,Au.cells];refine hC.call [] (h60 Gl b hb.sem.row y l[k]) (by simp [Au.av,Au.cells]) ?_;refine hC.til [1021] [] 90 ?_;simp [Au.cells];have st1:=(sem_step ha.sem.toSem0 hsx l[k]).1;have st2:=(sem_step hb.sem.toSem0 hsy l[k]).1;refine go_to [(.can 0,.nm (.can 0)),(.can 1,.nm (.can 1))] (h29k Gl hWk hwi hgood hkl hsort rfl (st1.imp_right (·.1)) (st2.imp_right (·.1)) (by omega) (by omega) one hC fun ws' q1 q2=>?_) (by simp [Au.cells]);refine hC.go [] 90 ?_;simp;exact go_to [(.can 0,.nm (.can 0)),(.can 1,.nm (.can 1))] (ihk ⟨(k+1,ws'),hkl,q1,q2⟩ (by simp;omega)) (by simp [hwk,Au.cells])
      ·have htk:l.take k=l:=List.take_of_length_le (by omega);rw [htk] at hWk;have hturn:=ways_turn hWk (fun x hx=>hx) hwi hgood;have hil:=(List.getElem?_eq_some_iff.1 hwi).1;have hw1:=wr64 ((i:Int)+1) (by omega);refine hC.go [] 90 ?_;simp [hkl];exact go_to [] (ih ⟨(i+1,ws),hil,hturn⟩ (by simp;omega)) (by simp [hw1,Au.cells])
     ·cases hbad:badP a b (!one) x y with
      |true=>
       rw [hfound i ways _ hW hq' hbad] at hC;cases hp:a.acc x
       all_goals
        cases hq2:b.acc y
        all_goals
         cases hone:one
         all_goals
          simp only [badP,hp,hq2,hone] at hbad
          first
           |(exfalso;revert hbad;decide)
           |(refine hC.go [] 90 ?_
             simp [hlt2,hq])
      |false=>
       have tail':=tail ⟨hbad⟩;cases hp:a.acc x
       all_goals
        cases hq2:b.acc y
        all_goals
         cases hone:one
         all_goals
          simp only [badP,hp,hq2,hone] at hbad
          first
           |(exfalso;revert hbad;decide)
           |(refine hC.til [1017] [] 90 ?_
             simp;exact go_to [] tail' (by simp [hone,Au.cells]))
    ·rcases hsy with rfl|⟨g0,g1⟩
     ·refine hC.til [1015] [] 90 ?_;simp [Au.cells];exact go_to [] (tail ()) (by simp [Au.cells,Au.acc])
     ·obtain ⟨m,rfl⟩:∃m:Nat,y=m:=⟨y.toNat,by omega⟩;rw [Int.toNat_natCast] at g1;have g2:m<b.final.length:=(by omega);refine hC.til [1015] [] 90 ?_;simp [Au.cells,g2];exact go_to [] (tail ()) (by simp [Au.cells,acc_in b g2])
   ·rcases hsx with rfl|⟨g0,g1⟩
    ·refine hC.til [1014] [] 90 ?_;simp [Au.cells];exact go_to [] (tail ()) (by simp [Au.cells,Au.acc])
    ·obtain ⟨m,rfl⟩:∃m:Nat,x=m:=⟨x.toNat,by omega⟩;rw [Int.toNat_natCast] at g1;have g2:m<a.final.length:=(by omega);refine hC.til [1014] [] 90 ?_;simp [Au.cells,g2];exact go_to [] (tail ()) (by simp [Au.cells,acc_in a g2])
  ·rw [hnone i ways hW (by omega)] at hC;refine hC.til [29] [] 90 ?_;simp [hlt2];refine hC.go [] 4 ?_;simp;refine go_to (M:=⟨[(6,.pv (namesV [])),(7,vB false)],[]⟩) [] ?_ (by simp);refine hC.go [] 90 ?_;simp
end Go.Proofs.D
