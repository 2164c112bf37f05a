/-
  SCHEMAS: the kind of a line.
-/
import Derived.Test.YtibegggijdahdaaGreatDoorZ4
import Derived.Test.YtibegggijdahdaaGreatDoorR7
import Derived.Test.YtibegggijdahdaaGreatDoorS8
import Derived.Test.YtibegggijdahdaaGreatDoorL6
import Derived.Test.YtibegggijdahdaaGreatDoorG12
import Derived.Test.YtibegggijdahdaaGreatDoorG15
import Derived.Test.YtibegggijdahdaaGreatDoorD36
set_option linter.unusedVariables false
set_option linter.unusedSimpArgs false
namespace Go.Proofs.D
open Go Go.Abs Go.RowKit
theorem splitC_len (c:UInt8):∀(l:Bs),∀x∈splitC c l,x.length≤l.length
 |[],x,hx=>by simp [splitC] at hx;simp [hx]
 |b::l,x,hx=>by
  have ih:=splitC_len c l;unfold splitC at hx;split at hx
  ·rcases List.mem_cons.1 hx with rfl|hx
   ·simp
   ·have:=ih x hx;simp;omega
  ·split at hx
   ·simp at hx;simp [hx]
   ·rename_i y r hs;rw [hs] at ih;rcases List.mem_cons.1 hx with rfl|hx
    ·have:=ih y (by simp);simp;omega
    ·have:=ih x (by simp [hx]);simp;omega
theorem splitC_many (c:UInt8):∀(l:Bs),(splitC c l).length≤l.length+1
 |[]=>by simp [splitC]
 |b::l=>by
  have ih:=splitC_many c l;unfold splitC;split
  ·simp;omega
  ·split
   ·simp
   ·rename_i y r hs;rw [hs] at ih;simp at ih ⊢;omega
theorem cutT_len (s p:Bs):(cutT s p).1.length≤s.length∧(cutT s p).2.1.length≤s.length:=by
 unfold cutT Lib.cut;split
 ·simp;omega
 ·simp
def declOf (w:Bs):Dc:=⟨bs (cutT w [61]).1,if (cutT w [61]).2.1 = [42] then [] else (splitC 124 (cutT w [61]).2.1).map bs⟩
def declsFrom:List Dc→List Bs→Option (List Dc)
 |acc,[]=>some acc
 |acc,w::r=>if (cutT w [61]).2.2=true then declsFrom (acc++[declOf w]) r else none
def kindR (line:Bs):Kd × Bool:=
 if (cutT line [58,32]).2.2=true then
  match declsFrom [] (splitC 32 (cutT line [58,32]).1).tail with
  |none=>(k0,false)
  |some ds=>(⟨bs ((splitC 32 (cutT line [58,32]).1).headD []),(parse (bs (cutT line [58,32]).2.1)).1,ds⟩,decide ((parse (bs (cutT line [58,32]).2.1)).2=0))
 else (k0,false)
theorem g63 (s:Bs)(c:UInt8)(hs:s.length<4294967281):Fun Tryz.prog tabs 38 [vS (bs s),vS ⟨#[c]⟩] [] (.pv (strs ((afterL c s).map bs))) []:=by
 refine fun_of (T:=T4) (n:=10) (rs:=[.tmp 4]) Tryz.func38 (by kernel_rfl) rfl rfl rfl tok4 mixed (by simp) fun C hC=>?_;have g1:(⟨#[c]⟩:ByteArray).size=1:=rfl;refine hC.vc [] 60 ?_;simp [g1];refine hC.call [] (g108 s c hs) (by simp) ?_;refine hC.vc [] 60 ?_;simp
set_option maxRecDepth 20000 in
set_option maxHeartbeats 2000000 in
theorem g65 (line:Bs)(hl:line.length≤100000):Fun Tryz.prog tabs 41 [vS (bs line)] [] (.tup [(kindR line).1.av,vB (kindR line).2]) []:=by
 have hk:kindR line=if (cutT line [58,32]).2.2=true then
  match declsFrom [] (splitC 32 (cutT line [58,32]).1).tail with
  |none=>(k0,false)
  |some ds=>(⟨bs ((splitC 32 (cutT line [58,32]).1).headD []),(parse (bs (cutT line [58,32]).2.1)).1,ds⟩,decide ((parse (bs (cutT line [58,32]).2.1)).2=0))
  else (k0,false):=rfl
 obtain ⟨hc1,hc2⟩:=cutT_len line [58,32];have hcall:=g110 line [58,32] (by omega);obtain ⟨⟨front,content,okc⟩,hcut⟩:∃x,cutT line [58,32]=x:=⟨_,rfl⟩;rw [hcut] at hk hcall hc1 hc2;simp only at hk hcall hc1 hc2;have hb2:bs [58,32]=⟨#[58,32]⟩:=rfl;have hb1:bs [61]=⟨#[61]⟩:=rfl;rw [hb2] at hcall;refine fun_of (T:=T4) (n:=71) (rs:=[.cell 2 45,.tmp 3]) Tryz.func41 (by kernel_rfl) rfl rfl rfl tok4 mixed (by simp) fun C hC=>?_;refine hC.vc [] 60 ?_;simp;refine hC.call [] hcall (by simp) ?_;cases okc with
 |false=>
  rw [if_neg (by simp)] at hk;rw [hk] at hC;refine hC.vc [] 60 ?_;simp [k0,Kd.av,Kd.cells,E.cells,E.op,E.name,E.kids]
 |true=>
  rw [if_pos rfl] at hk;refine hC.vc [] 60 ?_;simp;refine hC.call [] (g111 front 32 (by omega)) (by simp) ?_;have hpl:=splitC_len 32 front;have hpm:=splitC_many 32 front;obtain ⟨w0,ws,hws⟩:∃w0 ws,splitC 32 front=w0::ws:=by
   match h:splitC 32 front with
   |[]=>exact absurd h (splitC_ne 32 front)
   |a::b=>exact ⟨a,b,rfl⟩
  rw [hws] at hk hpl hpm ⊢;simp only [List.tail_cons,List.headD_cons] at hk;refine hC.vc [] 60 ?_;simp;refine hC.call [] (f13 tabs (bs content) (by rw [bs_size];omega)) (by simp [E.av,E.cells]) ?_;obtain ⟨⟨e,er⟩,hpe⟩:∃x,parse (bs content)=x:=⟨_,rfl⟩;rw [hpe] at hk ⊢;simp only at hk ⊢;refine hC.vc [] 60 ?_;simp [E.av,E.cells];refine ⟨by omega,?_⟩;have htake:List.take ws.length (List.map ((fun s=>[PV.val (Value.string s)]) ∘ bs) ws)=ws.map ((fun s=>[PV.val (Value.string s)]) ∘ bs):=List.take_of_length_le (by simp);rw [htake];have hwl0:ws.length≤100000:=by
   have:=hpm;simp only [List.length_cons] at this;omega
  refine go_loop (ι:={x:Nat × List Dc // x.1≤ws.length∧x.2.length=x.1∧declsFrom [] ws=declsFrom x.2 (ws.drop x.1)}) (fun x=>⟨[(2,.ptr (.loc 2) 0),(9,vI er),(10,.ptr (.loc 10) 0),(39,.pv (strs (ws.map bs))),(40,vI ws.length),(41,vI x.1.1)],
   [(.loc 2,some (.box 45 [vS ⟨#[]⟩,.pv (.val (.int .u8 0)),vS ⟨#[]⟩,.pv (.nilS 3),.pv (.nilS 2)])),(.loc 10,some (.box 45 [vS (bs w0),.pv (.val (.int .u8 e.op)),vS e.name,.pv (.ro 3 (e.kids.map E.pv)),.own (.can 0)])),(.can 0,some (.row 51 2 (x.1.2.map Dc.pv)))]⟩)
   (fun x=>ws.length-x.1.1) ⟨(0,[]),by simp⟩ [(.can 0,.nil)] (by simp) fun x ih=>?_
  obtain ⟨⟨i,ds⟩,hi,hdl,hn⟩:=x;simp only at hi hdl hn ih;refine hC.vc [] 60 ?_;by_cases hlt:i<ws.length
  ·have hw1:=wr64 ((i:Int)+1) (by omega);rw [List.drop_eq_getElem_cons hlt] at hn;simp only [declsFrom] at hn;obtain ⟨w,hw⟩:∃w,ws[i]=w:=⟨_,rfl⟩;have hwl:w.length≤front.length:=hpl w (by rw [←hw];simp);rw [hw] at hn;obtain ⟨hd1,hd2⟩:=cutT_len w [61];have hcall2:=g110 w [61] (by omega);have hdo:declOf w=⟨bs (cutT w [61]).1,if (cutT w [61]).2.1 = [42] then [] else (splitC 124 (cutT w [61]).2.1).map bs⟩:=rfl;obtain ⟨⟨nm,vals,okw⟩,hcut2⟩:∃x,cutT w [61]=x:=⟨_,rfl⟩;rw [hcut2] at hn hcall2 hd1 hd2 hdo;simp only at hn hcall2 hd1 hd2 hdo;rw [hb1] at hcall2;simp [hlt,hw];refine hC.call [] hcall2 (by simp) ?_;cases okw with
   |false=>
    rw [if_neg (by simp)] at hn;rw [hn] at hk;simp only at hk;rw [hk] at hC;refine hC.vc [] 60 ?_;simp [k0,Kd.av,Kd.cells,E.cells,E.op,E.name,E.kids]
   |true=>
    rw [if_pos rfl] at hn;by_cases hv:vals = [42]
    ·rw [if_pos hv] at hdo;have hvb:bs vals=⟨#[42]⟩:=(by rw [hv];rfl);rw [hvb];refine hC.vc [] 60 ?_;simp;refine ⟨by omega,?_⟩;exact go_to [(.can 0,.nm (.loc 65))] (ih ⟨(i+1,ds++[declOf w]),hlt,by simp [hdl],hn⟩ (by simp;omega)) (by simp [hw1,hdo])
    ·rw [if_neg hv] at hdo;have hvb:¬bs vals=⟨#[42]⟩:=fun h=>hv (by rw [←bs_list vals,h]);refine hC.vc [] 60 ?_;simp [hvb];refine hC.call [] (g111 vals 124 (by omega)) (by simp) ?_;refine hC.vc [] 60 ?_;simp;refine ⟨by omega,?_⟩;exact go_to [(.can 0,.nm (.loc 65))] (ih ⟨(i+1,ds++[declOf w]),hlt,by simp [hdl],hn⟩ (by simp;omega)) (by simp [hw1,hdo])
  ·rw [List.drop_eq_nil_of_le (by omega)] at hn;simp only [declsFrom] at hn;rw [hn] at hk;simp only at hk;rw [hk] at hC;simp [hlt,Kd.av,Kd.cells,E.cells,hk]
theorem sepTail_by (c:UInt8)(y:Bs)(r:List Bs):sepTail c (y::r)=c::sepBy c (y::r):=by
 simp [sepTail,sepBy]
theorem join_split (c:UInt8):∀l:Bs,sepBy c (splitC c l)=l
 |[]=>by simp [splitC,sepBy,sepTail]
 |x::l=>by
  have ih:=join_split c l;have hne:=splitC_ne c l;unfold splitC
  match hs:splitC c l with
  |[]=>exact absurd hs hne
  |y::r=>
   rw [hs] at ih;by_cases h:x=c
   ·rw [if_pos h];show []++sepTail c (y::r)=_;rw [sepTail_by,ih,h];rfl
   ·rw [if_neg h];show x::y++sepTail c r=_;have:y++sepTail c r=l:=ih;rw [List.cons_append,this]
theorem joinV_bs (l:List Bs):joinV (l.map bs)=sepBy 124 l:=by
 unfold joinV;rw [List.map_map];congr 1;exact (List.map_congr_left fun x _=>bs_list x).trans (List.map_id l)
theorem bsize (l:Bs):(bs l).size=l.length:=rfl
theorem declsFrom_all {P:Dc→Prop}:∀(ws:List Bs) (acc ds:List Dc),declsFrom acc ws=some ds→(∀d∈acc,P d)→(∀w∈ws,P (declOf w))→(∀d∈ds,P d)∧ds.length=acc.length+ws.length
 |[],acc,ds,h,ha,hw=>by
  simp only [declsFrom,Option.some.injEq] at h;subst h;exact ⟨ha,by simp⟩
 |w::ws,acc,ds,h,ha,hw=>by
  simp only [declsFrom] at h;split at h
  ·obtain ⟨h1,h2⟩:=declsFrom_all ws _ ds h (fun d hd=>by
    rcases List.mem_append.1 hd with hd|hd
    ·exact ha d hd
    ·simp at hd;rw [hd];exact hw w (by simp)) (fun x hx=>hw x (by simp [hx]))
   exact ⟨h1,by rw [h2];simp;omega⟩
  ·cases h
theorem flat_bound {α:Type}(f:α→Bs)(B:Nat):∀l:List α,(∀x∈l,(f x).length≤B)→(l.flatMap f).length≤l.length*B
 |[],_=>by simp
 |x::l,h=>by
  have h1:=h x (by simp);have h2:=flat_bound f B l fun y hy=>h y (by simp [hy]);simp only [List.flatMap_cons,List.length_append,List.length_cons,Nat.add_mul,Nat.one_mul];omega
theorem declB_lin (w:Bs):(declB (declOf w)).length≤3*(w.length+1):=by
 obtain ⟨h1,h2⟩:=cutT_len w [61];have hv:(valsB (declOf w).vals).length≤w.length+1:=by
  unfold valsB;split
  ·simp
  ·simp only [declOf];split
   ·simp [joinV,sepBy]
   ·rw [joinV_bs,join_split];omega
 have hn:(declOf w).name.data.toList.length≤w.length:=by simp only [declOf];rw [bs_list];omega
 simp only [declB,List.length_append,List.length_cons];omega
theorem tail_lin:∀l:List Bs,((l.map declOf).flatMap declB).length≤3*(sepTail 32 l).length
 |[]=>by simp
 |x::l=>by
  have h1:=declB_lin x;have h2:=tail_lin l;have e:(sepTail 32 (x::l)).length=x.length+1+(sepTail 32 l).length:=by
   simp only [sepTail,List.flatMap_cons,List.length_append,List.length_cons]
  rw [List.map_cons,List.flatMap_cons,List.length_append,e];omega
theorem declsFrom_eq:∀(ws:List Bs) (acc ds:List Dc),declsFrom acc ws=some ds→ds=acc++ws.map declOf
 |[],acc,ds,h=>by
  simp only [declsFrom,Option.some.injEq] at h;simp [h]
 |w::ws,acc,ds,h=>by
  simp only [declsFrom] at h;split at h
  ·rw [declsFrom_eq ws _ ds h];simp
  ·cases h
theorem declOf_fit (w:Bs)(hw:w.length≤1000000):(declOf w).fit:=by
 obtain ⟨h1,h2⟩:=cutT_len w [61];have hM:M47=140737488355328:=rfl;refine ⟨by simp only [declOf,bsize];omega,fun v hv=>?_⟩;simp only [declOf] at hv;split at hv
 ·cases hv
 ·obtain ⟨x,hx,rfl⟩:=List.mem_map.1 hv;have:=splitC_len 124 _ x hx;rw [bsize];omega
theorem kindR_wide (line:Bs)(hl:line.length≤100000)(hk:(kindR line).2=true):(kindR line).1.fit∧(lineK (kindR line).1).length≤9000000:=by
 have hM:M47=140737488355328:=rfl;obtain ⟨hc1,hc2⟩:=cutT_len line [58,32];unfold kindR at hk ⊢;by_cases hc:(cutT line [58,32]).2.2=true
 ·rw [if_pos hc] at hk ⊢;have hsl:=splitC_len 32 (cutT line [58,32]).1;have hsm:=splitC_many 32 (cutT line [58,32]).1;have hjs:=join_split 32 (cutT line [58,32]).1;cases hd:declsFrom [] (splitC 32 (cutT line [58,32]).1).tail with
  |none=>rw [hd] at hk;simp at hk
  |some ds=>
   simp only [hd,decide_eq_true_eq] at hk;simp only;have htl:∀w∈(splitC 32 (cutT line [58,32]).1).tail,w.length≤1000000:=fun w hw=>by
    have:=hsl w (List.mem_of_mem_tail hw);omega
   obtain ⟨h1,h2⟩:=declsFrom_all (P:=Dc.fit) _ _ _ hd (fun d h=>by cases h) (fun w hw=>declOf_fit w (htl w hw));have hde:=declsFrom_eq _ _ _ hd;have hdn:ds.length≤100001:=by
    rw [h2,List.length_tail];simp;omega
   have hfl:(ds.flatMap declB).length≤3*line.length:=by
    rw [hde,List.nil_append];have h3:=tail_lin (splitC 32 (cutT line [58,32]).1).tail;have h4:(sepTail 32 (splitC 32 (cutT line [58,32]).1).tail).length≤(cutT line [58,32]).1.length:=by
     match hs:splitC 32 (cutT line [58,32]).1 with
     |[]=>simp [sepTail]
     |a::b=>
      rw [hs] at hjs;have:=congrArg List.length hjs;simp only [sepBy,List.length_append] at this;simp only [List.tail_cons];omega
    omega
   have hhd:((splitC 32 (cutT line [58,32]).1).headD []).length≤100000:=by
    match hs:splitC 32 (cutT line [58,32]).1 with
    |[]=>simp
    |a::b=>
     rw [hs] at hsl;have:=hsl a (by simp);simp;omega
   obtain ⟨p1,p2⟩:=parse_small (bs (cutT line [58,32]).2.1) (by rw [bsize];omega);have hcb:(parse (bs (cutT line [58,32]).2.1)).1.bytes.length≤100000:=by
    rcases parse_sound (bs (cutT line [58,32]).2.1) with h|⟨_,h3,h4⟩
    ·rw [h] at hk;simp at hk
    ·unfold E.bytes E.print;rw [if_pos h3,h4,bs_list];omega
   refine ⟨⟨by simp only [bsize];omega,p1,by simp only;omega,by simp only;omega,fun d hd=>h1 d hd⟩,?_⟩;simp only [lineK,headB,nodeS,List.length_append,List.length_cons,List.length_nil,bs_list];omega
 ·rw [if_neg hc] at hk;cases hk
def preB (p l:Bs):Bool:=decide (l.take p.length=p)
theorem preB_iff {p l:Bs}:preB p l=true↔∃r,l=p++r:=by
 simp only [preB,decide_eq_true_eq];constructor
 ·intro h;exact ⟨l.drop p.length,by conv=>lhs;rw [←List.take_append_drop p.length l,h]⟩
 ·rintro ⟨r,rfl⟩;simp
theorem pre_eq (p l:Bs):hasPre (bs l) (bs p)=preB p l:=by
 rw [Bool.eq_iff_iff,preB_iff];exact hp_iff l p
theorem cut_eq {p l:Bs}(h:preB p l=true):cutPre (bs l) (bs p)=bs (l.drop p.length):=by
 obtain ⟨r,rfl⟩:=preB_iff.1 h;rw [List.drop_left];exact cp_yes p r
theorem cut_not {p l:Bs}(h:preB p l=false):cutPre (bs l) (bs p)=bs l:=cp_no (by rw [pre_eq,h])
def marksF (l:Bs)(ms:List ByteArray):List ByteArray:=if preB markS l=true then ms++[bs (l.drop 5)] else ms
def linesFrom:List Kd→List ByteArray→List Bs→Option (List Kd × List ByteArray)
 |ks,ms,[]=>some (ks,ms)
 |ks,ms,l::r=>
  if preB nodeS l=true∧(ks.length:Int)≤12 then
   if (kindR (l.drop 5)).2=true then linesFrom (ks++[(kindR (l.drop 5)).1]) (marksF l ms) r else none
  else linesFrom ks (marksF l ms) r
def s0:Sc:=⟨[],[]⟩
def sparse (t:Bs):Sc × Int:=match linesFrom [] [] (splitC 10 t) with
 |none=>(s0,2)
 |some (ks,ms)=>if (Sc.mk ks ms).print.2=0∧(Sc.mk ks ms).print.1=bs t then (⟨ks,ms⟩,0) else (s0,2)
theorem node_mark {l:Bs}(h:preB nodeS l=true):preB markS l=false:=by
 obtain ⟨r,rfl⟩:=preB_iff.1 h;simp [preB,nodeS,markS]
theorem splitK_len (sep:Bs)(sv:Nat):∀(k:Nat) (l:Bs),∀x∈Lib.splitK sep sv k l,x.length≤l.length
 |0,l,x,hx=>by simp [Lib.splitK] at hx;rw [hx];exact Nat.le_refl _
 |k+1,l,x,hx=>by
  unfold Lib.splitK at hx;split at hx
  ·simp at hx;rw [hx];exact Nat.le_refl _
  ·rcases List.mem_cons.1 hx with rfl|hx
   ·simp;omega
   ·have:=splitK_len sep sv k _ x hx;rw [List.length_drop] at this;omega
set_option maxRecDepth 20000 in
set_option maxHeartbeats 4000000 in
theorem g29w (t:Bs)(ht:t.length≤1000000)(hlines:∀l∈splitC 10 t,l.length≤100000):Fun Tryz.prog tabs 15 [vS (bs t)] [] (.tup [(sparse t).1.av,vI (sparse t).2]) []:=by
 have hsp:sparse t=match linesFrom [] [] (splitC 10 t) with
  |none=>(s0,2)
  |some (ks,ms)=>if (Sc.mk ks ms).print.2=0∧(Sc.mk ks ms).print.1=bs t then (⟨ks,ms⟩,0) else (s0,2):=rfl
 have hM:M47=140737488355328:=rfl;have hLl:=splitC_len 10 t;have hLm:=splitC_many 10 t;have hA:=after_trim 10 t;have hAl:∀x∈afterL 10 t,x.length≤t.length:=splitK_len [10] 1 _ t;have hcallA:=g63 t 10 (by omega);generalize splitC 10 t=L at hsp hLl hLm hA hlines;generalize afterL 10 t=A at hA hAl hcallA;have hAL:A.length=L.length:=by rw [←hA];simp
 have hnp:bs nodeS=⟨#[110,111,100,101,32]⟩:=rfl;have hmp:bs markS=⟨#[109,97,114,107,32]⟩:=rfl;refine fun_of (T:=T4) (n:=77) (rs:=[.cell 2 25,.tmp 3]) Tryz.func15 (by kernel_rfl) rfl rfl rfl tok4 mixed (by simp) fun C hC=>?_;refine hC.vc [] 60 ?_;simp;refine hC.call [] hcallA (by simp) ?_;refine hC.vc [] 60 ?_;simp;refine go_loop (ι:={x:Nat × List Kd × List ByteArray // x.1≤L.length∧linesFrom [] [] L=linesFrom x.2.1 x.2.2 (L.drop x.1)∧x.2.1.length≤13∧(∀k∈x.2.1,k.fit∧(lineK k).length≤9000000)∧x.2.2.length≤x.1∧∀m∈x.2.2,m.size≤100000})
  (fun x=>⟨[(0,vS (bs t)),(2,.ptr (.loc 2) 0),(4,.ptr (.loc 4) 0),(16,.pv (strs (A.map bs))),(17,vI L.length),(18,vI x.1.1)],
    [(.loc 2,some (.box 25 [.pv (.nilS 5),.pv (.nilS 1)])),(.loc 4,some (.box 25 [.own (.can 0),.own (.can 1)])),(.can 0,some (.row 45 5 (x.1.2.1.map Kd.pv))),(.can 1,some (.row 9 1 (x.1.2.2.map fun s=>[.val (.string s)])))]⟩)
  (fun x=>L.length-x.1.1) ⟨(0,[],[]),by simp⟩ [(.can 0,.nil),(.can 1,.nil)] (by simp [hAL]) fun x ih=>?_
 obtain ⟨⟨i,ks,ms⟩,hi,hn,hkl,hkf,hml,hmf⟩:=x;simp only at hi hn hkl hkf hml hmf ih;by_cases hlt:i<L.length
 ·refine hC.vc [] 60 ?_;have hltA:i<A.length:=by omega
  have hw1:=wr64 ((i:Int)+1) (by omega);rw [List.drop_eq_getElem_cons hlt] at hn;simp only [linesFrom] at hn;have hAi:Lib.trimSuffix A[i] [10]=L[i]:=by
   have:(A.map fun x=>Lib.trimSuffix x [10])[i]?=L[i]?:=(by rw [hA]);rw [List.getElem?_map,List.getElem?_eq_getElem hltA,List.getElem?_eq_getElem hlt] at this;simpa using this
  have hAil:=hAl A[i] (by simp);obtain ⟨l,hl⟩:∃l,L[i]=l:=⟨_,rfl⟩;have hll:l.length≤t.length:=hLl l (by rw [←hl];simp);have hll2:l.length≤100000:=hlines l (by rw [←hl];simp);have hdl:(l.drop 5).length≤100000:=by rw [List.length_drop];omega
  rw [hl] at hn hAi;have hcallT:=g64 tabs A[i] 10 (by omega);rw [hAi] at hcallT;obtain ⟨ai,hai⟩:∃ai,A[i]=ai:=⟨_,rfl⟩;rw [hai] at hcallT;have hcn:=f50 tabs (bs l) (bs nodeS);have hcm:=f50 tabs (bs l) (bs markS);rw [pre_eq,hnp] at hcn;rw [pre_eq,hmp] at hcm;rw [←hnp] at hcn;rw [←hmp] at hcm;have hMk:∀b:Bool,preB markS l=b→marksF l ms=if b=true then ms++[bs (l.drop 5)] else ms:=fun b hb=>by rw [marksF,hb]
  simp [hlt,hltA,hai];refine hC.call [] hcallT (by simp) ?_;refine hC.vc [] 60 ?_;simp;have fin:∀(ks':List Kd),linesFrom [] [] L=linesFrom ks' (marksF l ms) (L.drop (i+1))→ks'.length≤13→(∀k∈ks',k.fit∧(lineK k).length≤9000000)→
   ∃y:{x:Nat × List Kd × List ByteArray // x.1≤L.length∧linesFrom [] [] L=linesFrom x.2.1 x.2.2 (L.drop x.1)∧x.2.1.length≤13∧(∀k∈x.2.1,k.fit∧(lineK k).length≤9000000)∧x.2.2.length≤x.1∧∀m∈x.2.2,m.size≤100000},y.1=(i+1,ks',marksF l ms):=fun ks' h1 h2 h3=>by
   refine ⟨⟨(i+1,ks',marksF l ms),hlt,h1,h2,h3,?_,?_⟩,rfl⟩
   ·simp only [marksF];split
    ·simp;exact hml
    ·omega
   ·intro m hm;simp only [marksF] at hm;split at hm
    ·rcases List.mem_append.1 hm with hm|hm
     ·exact hmf m hm
     ·simp at hm;rw [hm,bsize];exact hdl
    ·exact hmf m hm
  cases hnode:preB nodeS l with
  |false=>
   rw [if_neg (by simp [hnode])] at hn;rw [hnode,cut_not hnode,hnp] at hcn;refine hC.call [] hcn (by simp) ?_;refine hC.vc [] 60 ?_;simp;obtain ⟨y,hy⟩:=fin ks hn hkl hkf;have ihy:=ih y (by rw [hy];simp;omega);rw [hy] at ihy;cases hmark:preB markS l with
   |false=>
    rw [hMk _ hmark,if_neg (by simp)] at ihy;rw [hmark,cut_not hmark,hmp] at hcm;refine hC.call [] hcm (by simp) ?_;refine hC.vc [] 60 ?_;simp;exact go_to [] ihy (by simp [hw1])
   |true=>
    rw [hMk _ hmark,if_pos rfl] at ihy;rw [hmark,cut_eq hmark,hmp] at hcm;refine hC.call [] hcm (by simp) ?_;refine hC.vc [] 60 ?_;simp;refine ⟨by omega,?_⟩;exact go_to [(.can 1,.nm (.loc 60))] ihy (by simp [hw1,markS])
  |true=>
   have hmark:=node_mark hnode;rw [hnode,cut_eq hnode,hnp] at hcn;rw [hmark,cut_not hmark,hmp] at hcm;have hd5:l.drop nodeS.length=l.drop 5:=rfl;rw [hd5] at hcn;refine hC.call [] hcn (by simp) ?_;by_cases h12:(ks.length:Int)≤12
   ·rw [if_pos ⟨hnode,h12⟩] at hn;have hck:=g65 (l.drop 5) (by omega);have hks:=kindR_wide (l.drop 5) hdl;generalize kindR (l.drop 5)=kr at hn hck hks;obtain ⟨k,okk⟩:=kr;simp only at hn hck hks;refine hC.vc [] 60 ?_;simp [h12];refine hC.call [] hck (by simp [Kd.av,Kd.cells,E.cells]) ?_;cases okk with
    |false=>
     rw [if_neg (by simp)] at hn;rw [hn] at hsp;simp only at hsp;rw [hsp] at hC;refine hC.vc [] 60 ?_;simp [Kd.av,Kd.cells,E.cells,s0,Sc.av,Sc.cells]
    |true=>
     rw [if_pos rfl] at hn;obtain ⟨y,hy⟩:=fin (ks++[k]) hn (by simp;omega) (fun x hx=>by
      rcases List.mem_append.1 hx with hx|hx
      ·exact hkf x hx
      ·simp at hx;rw [hx];exact hks rfl)
     have ihy:=ih y (by rw [hy];simp;omega);rw [hy,hMk _ hmark,if_neg (by simp)] at ihy;refine hC.vc [] 60 ?_;simp [Kd.av,Kd.cells,E.cells];refine ⟨by omega,?_⟩;refine hC.call [] hcm (by simp) ?_;refine hC.vc [] 60 ?_;simp;exact go_to [(.can 0,.nm (.loc 48))] ihy (by simp [hw1,Kd.pv_eq,E.pv_eq])
   ·rw [if_neg (fun h=>h12 h.2)] at hn;obtain ⟨y,hy⟩:=fin ks hn hkl hkf;have ihy:=ih y (by rw [hy];simp;omega);rw [hy,hMk _ hmark,if_neg (by simp)] at ihy;refine hC.vc [] 60 ?_;simp [h12];refine hC.call [] hcm (by simp) ?_;refine hC.vc [] 60 ?_;simp;exact go_to [] ihy (by simp [hw1])
 ·rw [List.drop_eq_nil_of_le (by omega)] at hn;simp only [linesFrom] at hn;rw [hn] at hsp;simp only at hsp;have hfit:(Sc.mk ks ms).fit:=⟨fun k hk=>(hkf k hk).1,fun m hm=>by have:=hmf m hm;omega⟩;have hbytes:(Sc.mk ks ms).ok=true→(Sc.mk ks ms).bytes.length≤1000000000:=fun hok=>by
   have hm12:ms.length≤12:=(Sc.ok_kinds hok).2.2.1;have h1:=flat_bound lineK 9000000 ks fun k hk=>(hkf k hk).2;have h2:=flat_bound lineM 100006 ms fun m hm=>by
    have:=hmf m hm;have e:m.data.toList.length=m.size:=Array.length_toList;simp only [lineM,markS,List.length_append,List.length_cons,List.length_nil];omega
   have h3:ks.length*9000000≤13*9000000:=Nat.mul_le_mul_right _ hkl;have h4:ms.length*100006≤12*100006:=Nat.mul_le_mul_right _ (by omega);simp only [Sc.bytes,List.length_append];omega
  have hcp:=g19 tabs (Sc.mk ks ms) hfit hbytes;have hav:(Sc.mk ks ms).av = .agg [.pv (kds ks),.pv (strs ms)]:=rfl;rw [hav] at hcp;generalize (Sc.mk ks ms).print=pr at hcp hsp;obtain ⟨pt,pe⟩:=pr;simp only at hcp hsp;refine hC.vc [] 6 ?_;simp [hlt];refine go_to (M:=⟨[(0,vS (bs t)),(2,.ptr (.loc 2) 0),(4,.ptr (.loc 4) 0)],[(.loc 2,some (.box 25 [.pv (.nilS 5),.pv (.nilS 1)])),(.loc 4,some (.box 25 [.pv (kds ks),.pv (strs ms)]))]⟩) [] (hC.vc [] 60 ?_) (by simp);simp;refine hC.call [] hcp (by simp) ?_;by_cases he:pe=0
  ·by_cases hp:pt=bs t
   ·rw [if_pos ⟨he,hp⟩] at hsp;rw [hsp] at hC;refine hC.vc [] 60 ?_;simp [he,hp,Sc.av,Sc.cells]
   ·rw [if_neg (fun h=>hp h.2)] at hsp;rw [hsp] at hC;refine hC.vc [] 60 ?_;simp [he,hp,s0,Sc.av,Sc.cells]
  ·rw [if_neg (fun h=>he h.1)] at hsp;rw [hsp] at hC;refine hC.vc [] 60 ?_;simp [he,s0,Sc.av,Sc.cells]
theorem g29 (t:Bs)(ht:t.length≤2000):Fun Tryz.prog tabs 15 [vS (bs t)] [] (.tup [(sparse t).1.av,vI (sparse t).2]) []:=
 g29w t (by omega) fun l hl=>by have:=splitC_len 10 t l hl;omega
def Dc.first (d:Dc):ByteArray:=d.vals.headD ⟨#[]⟩
theorem g25 (Gl:Granted)(d:Dc):Fun Tryz.prog Gl 19 [d.av] [] (vS d.first) []:=by
 refine fun_of (T:=T4) (n:=11) (rs:=[.tmp 2]) Tryz.func19 (by kernel_rfl) rfl rfl rfl tok4 mixed (by simp) fun C hC=>?_;obtain ⟨nm,vals⟩:=d;cases vals with
 |nil=>
  refine hC.vc [] 60 ?_;simp [Dc.first]
 |cons v l=>
  have h1:¬((l.length:Int)+1=0):=by omega
  refine hC.vc [] 60 ?_;simp [Dc.first,h1]
def Dc.takes (d:Dc)(v:ByteArray):Bool:=if d.vals = [] then value v else d.vals.any fun x=>decide (v=x)
theorem g27 (d:Dc)(v:ByteArray)(hv:v.size≤9223372036854775807):Fun Tryz.prog tabs 18 [d.av,vS v] [] (vB (d.takes v)) []:=by
 refine fun_of (T:=T4) (n:=15) (rs:=[.tmp 4]) Tryz.func18 (by kernel_rfl) rfl rfl rfl tok4 mixed (by simp) fun C hC=>?_;have ht:d.takes v=if d.vals = [] then value v else d.vals.any fun x=>decide (v=x):=rfl
 obtain ⟨nm,vals⟩:=d;cases vals with
 |nil=>
  rw [if_pos rfl] at ht;refine hC.vc [] 60 ?_;simp;refine hC.call [] (f67 v hv) (by simp) ?_;refine hC.vc [] 60 ?_;simp [ht]
 |cons x l=>
  rw [if_neg (by simp)] at ht;have h1:¬((l.length:Int)+1=0):=by omega
  refine hC.vc [] 60 ?_;simp [h1];refine hC.call [] (g62 tabs (x::l) v) (by simp) ?_;refine hC.vc [] 60 ?_;simp [ht]
def exT:Bs:=[110,111,100,101,32,100,111,99,58,32,112,97,114,97,43,10,110,111,100,101,32,112,97,114,97,32,97,108,105,103,110,61,108,101,102,116,124,114,105,103,104,116,58,32,116,101,120,116,42,10,109,97,114,107,32,98,10]
def exL1:Bs:=[110,111,100,101,32,100,111,99,58,32,112,97,114,97,43]
def exL2:Bs:=[110,111,100,101,32,112,97,114,97,32,97,108,105,103,110,61,108,101,102,116,124,114,105,103,104,116,58,32,116,101,120,116,42]
def exL3:Bs:=[109,97,114,107,32,98]
theorem ex_split:splitC 10 exT = [exL1,exL2,exL3,[]]:=by kernel_rfl
def paraK:ByteArray:=⟨#[112,97,114,97]⟩
def docK:ByteArray:=⟨#[100,111,99]⟩
def ex1:E:=.mk 43 ⟨#[]⟩ [.mk 110 paraK []]
def ex2:E:=.mk 42 ⟨#[]⟩ [.mk 110 textK []]
def ex1S:Bs:=[112,97,114,97,43]
def ex2S:Bs:=[116,101,120,116,42]
theorem leaf_many (n:ByteArray):(E.mk 110 n []).many=1:=by rw [E.many_eq];rfl
theorem leaf_ok {n:ByteArray}(h:isName n=true∨n=textK):(E.mk 110 n []).ok=true:=by
 rw [E.ok_eq];rcases h with h|h
 ·simp [E.op,E.kids,E.name,h]
 ·simp [E.op,E.kids,E.name,h,textK]
theorem one_many (o:Int)(ho:¬o=110)(x:ByteArray):(E.mk o ⟨#[]⟩ [.mk 110 x []]).many=2:=by
 rw [E.many_eq];show wr .i64 (1+(E.mk 110 x []).many)=2;rw [leaf_many]
 kernel_rfl
theorem one_right {o:Int}(ho:o=42∨o=43){x:ByteArray}(h:isName x=true∨x=textK):(E.mk o ⟨#[]⟩ [.mk 110 x []]).right=true:=by
 have h1:=one_many o (by omega) x;have h2:(E.mk o ⟨#[]⟩ [.mk 110 x []]).ok=true:=by
  rw [E.ok_eq];rcases ho with rfl|rfl<;>simp [E.op,E.kids,E.name,leaf_ok h,E.suffix]
 simp [E.right,h1,h2]
theorem para_name:isName paraK=true:=by decide +kernel
theorem ex1_right:ex1.right=true:=one_right (.inr rfl) (.inl para_name)
theorem ex2_right:ex2.right=true:=one_right (.inl rfl) (.inr rfl)
theorem ex1_read:read (bs ex1S)=(ex1,⟨⟨#[]⟩,false,1⟩):=by kernel_rfl
theorem ex2_read:read (bs ex2S)=(ex2,⟨⟨#[]⟩,false,1⟩):=by kernel_rfl
theorem ex1_text:ex1.text false=bs ex1S:=by kernel_rfl
theorem ex2_text:ex2.text false=bs ex2S:=by kernel_rfl
theorem ex1_parse:parse (bs ex1S)=(ex1,0):=by unfold parse;rw [ex1_read];simp [ex1_right,ex1_text]
theorem ex2_parse:parse (bs ex2S)=(ex2,0):=by unfold parse;rw [ex2_read];simp [ex2_right,ex2_text]
def exA:Dc:=⟨⟨#[97,108,105,103,110]⟩,[⟨#[108,101,102,116]⟩,⟨#[114,105,103,104,116]⟩]⟩
def exK1:Kd:=⟨docK,ex1,[]⟩
def exK2:Kd:=⟨paraK,ex2,[exA]⟩
def exSc:Sc:=⟨[exK1,exK2],[⟨#[98]⟩]⟩
theorem ex_kind1:kindR (exL1.drop 5)=(exK1,true):=by
 have h1:cutT (exL1.drop 5) [58,32]=([100,111,99],ex1S,true):=by kernel_rfl
 have h2:splitC 32 ([100,111,99]:Bs) = [[100,111,99]]:=by kernel_rfl
 unfold kindR;rw [h1];simp only [if_true,h2,List.tail_cons,declsFrom,List.headD_cons,ex1_parse];rfl
theorem ex_kind2:kindR (exL2.drop 5)=(exK2,true):=by
 have h1:cutT (exL2.drop 5) [58,32]=([112,97,114,97,32,97,108,105,103,110,61,108,101,102,116,124,114,105,103,104,116],ex2S,true):=by kernel_rfl
 have h2:splitC 32 ([112,97,114,97,32,97,108,105,103,110,61,108,101,102,116,124,114,105,103,104,116]:Bs) = [[112,97,114,97],[97,108,105,103,110,61,108,101,102,116,124,114,105,103,104,116]]:=by kernel_rfl
 have h3:cutT ([97,108,105,103,110,61,108,101,102,116,124,114,105,103,104,116]:Bs) [61]=([97,108,105,103,110],[108,101,102,116,124,114,105,103,104,116],true):=by kernel_rfl
 have h4:declOf ([97,108,105,103,110,61,108,101,102,116,124,114,105,103,104,116]:Bs)=exA:=by kernel_rfl
 unfold kindR;rw [h1];simp only [if_true,h2,List.tail_cons,declsFrom,List.headD_cons,ex2_parse,h3,h4];rfl
theorem ex_lines:linesFrom [] [] (splitC 10 exT)=some ([exK1,exK2],[⟨#[98]⟩]):=by
 rw [ex_split];have a1:preB nodeS exL1=true:=by decide
 have a2:preB nodeS exL2=true:=by decide
 have a3:preB nodeS exL3=false:=by decide
 have a4:preB nodeS []=false:=by decide
 have b3:preB markS exL3=true:=by decide
 have b4:preB markS []=false:=by decide
 simp only [linesFrom,a1,a2,a3,a4,marksF,node_mark a1,node_mark a2,b3,b4,ex_kind1,ex_kind2];rfl
theorem ex_occ1 (s:ByteArray):ex1.occ s↔s=paraK:=by
 rw [occ_eq,if_neg (by decide)];simp only [ex1,E.kids,List.mem_singleton,exists_eq_left];rw [occ_eq];exact Iff.rfl
theorem ex_occ2 (s:ByteArray):ex2.occ s↔s=textK:=by
 rw [occ_eq,if_neg (by decide)];simp only [ex2,E.kids,List.mem_singleton,exists_eq_left];rw [occ_eq];exact Iff.rfl
theorem ex_known1:ex1.names.any exSc.unknown=false:=by
 rw [List.any_eq_false];intro s hs;rw [(ex_occ1 s).1 ((names_mem _ _).1 hs)];decide +kernel
theorem ex_known2:ex2.names.any exSc.unknown=false:=by
 rw [List.any_eq_false];intro s hs;rw [(ex_occ2 s).1 ((names_mem _ _).1 hs)];decide +kernel
theorem ex_ok1:exK1.ok exSc=true:=by
 have h1:exK1.attrs.all Dc.ok=true:=rfl;have h2:isName exK1.name=true:=by decide +kernel
 have h3:rise (exK1.attrs.map (·.name))=true:=rfl;unfold Kd.ok;rw [h1,h2,h3,show exK1.content=ex1 from rfl,ex1_right,ex_known1];rfl
theorem exS_ok2:exK2.ok exSc=true:=by
 have h1:exK2.attrs.all Dc.ok=true:=by decide +kernel
 have h2:isName exK2.name=true:=by decide +kernel
 have h3:rise (exK2.attrs.map (·.name))=true:=by decide +kernel
 unfold Kd.ok;rw [h1,h2,h3,show exK2.content=ex2 from rfl,ex2_right,ex_known2];rfl
theorem ex_scok:exSc.ok=true:=by
 have h1:kindsFrom exSc 0 exSc.kinds=true:=by
  show (decide (exSc.place docK=((0:Nat):Int))&&exK1.ok exSc&&(decide (exSc.place paraK=((0+1:Nat):Int))&&exK2.ok exSc&&true))=true;rw [ex_ok1,exS_ok2];decide +kernel
 unfold Sc.ok;rw [h1];decide +kernel
theorem ex_bytes:exSc.bytes=exT:=by
 have h1:ex1.bytes=ex1S:=by unfold E.bytes E.print;rw [if_pos ex1_right,ex1_text,bs_list]
 have h2:ex2.bytes=ex2S:=by unfold E.bytes E.print;rw [if_pos ex2_right,ex2_text,bs_list]
 have h3:lineK exK1=exL1++[10]:=by
  unfold lineK;rw [show exK1.content=ex1 from rfl,h1]
  kernel_rfl
 have h4:lineK exK2=exL2++[10]:=by
  unfold lineK;rw [show exK2.content=ex2 from rfl,h2]
  kernel_rfl
 show lineK exK1++(lineK exK2++[])++(lineM ⟨#[98]⟩++[])=exT;rw [h3,h4]
 kernel_rfl
theorem ex_sparse:sparse exT=(exSc,0):=by
 unfold sparse;rw [ex_lines];have hp:(Sc.mk [exK1,exK2] [⟨#[98]⟩]).print=(bs exT,0):=by
  show exSc.print=_;unfold Sc.print;rw [if_pos ex_scok,ex_bytes]
 simp only [hp];rw [if_pos ⟨trivial,trivial⟩];rfl
theorem ex_find:exSc.find paraK=(exK2,true):=by
 have h:exSc.place paraK=1:=by decide +kernel
 unfold Sc.find;rw [h];rfl
set_option maxRecDepth 20000 in
theorem g16:Fun Tryz.prog tabs 8 [] [] (vB true) []:=by
 have h1:=g29 exT (by decide);rw [ex_sparse] at h1;have h2:=g21 tabs exSc paraK;rw [ex_find] at h2;have h3:=g25 tabs exA;have h4:=g27 exA ⟨#[114,105,103,104,116]⟩ (by decide);have e3:exA.first=⟨#[108,101,102,116]⟩:=rfl;have e4:exA.takes ⟨#[114,105,103,104,116]⟩=true:=by decide +kernel
 rw [e3] at h3;rw [e4] at h4;refine fun_of (T:=T4) (n:=52) (rs:=[.tmp 0]) Tryz.func8 (by kernel_rfl) rfl rfl rfl tok4 mixed (by simp) fun C hC=>?_;refine hC.vc [] 60 ?_;simp;refine hC.call [] h1 (by simp [Sc.av,Sc.cells];rfl) ?_;refine hC.vc [] 60 ?_;simp [Sc.av,Sc.cells];refine hC.call [] h2 (by simp [Sc.av,Sc.cells,Kd.av,Kd.cells,E.cells,paraK]) ?_;refine hC.vc [] 60 ?_;simp [exSc,exK2,Kd.av,Kd.cells,E.cells];refine hC.call [] h3 (by simp [exA]) ?_;refine hC.vc [] 60 ?_;simp;refine hC.call [] h4 (by simp [exA]) ?_;refine hC.vc [] 60 ?_;simp
theorem splitC_app (c:UInt8):∀(l r:Bs),c∉l→splitC c (l++c::r)=l::splitC c r
 |[],r,_=>by simp [splitC]
 |x::l,r,h=>by
  simp only [List.mem_cons,not_or] at h;have ih:=splitC_app c l r h.2;rw [List.cons_append,splitC,if_neg (fun e=>h.1 e.symm),ih]
theorem splitC_one (c:UInt8):∀(l:Bs),c∉l→splitC c l = [l]
 |[],_=>by simp [splitC]
 |x::l,h=>by
  simp only [List.mem_cons,not_or] at h;have ih:=splitC_one c l h.2;rw [splitC,if_neg (fun e=>h.1 e.symm),ih]
theorem splitC_sep (c:UInt8):∀(x:Bs) (l:List Bs),c∉x→(∀p∈l,c∉p)→splitC c (sepBy c (x::l))=x::l
 |x,[],hx,_=>by simp [sepBy,sepTail,splitC_one c x hx]
 |x,y::l,hx,hl=>by
  have ih:=splitC_sep c y l (hl y (by simp)) (fun p hp=>hl p (by simp [hp]));have e:sepBy c (x::y::l)=x++c::sepBy c (y::l):=by simp [sepBy,sepTail]
  rw [e,splitC_app c x _ hx,ih]
theorem splitC_lines (c:UInt8):∀(ls:List Bs) (r:Bs),(∀l∈ls,c∉l)→splitC c (ls.flatMap (fun l=>l++[c])++r)=ls++splitC c r
 |[],r,_=>by simp
 |l::ls,r,h=>by
  have ih:=splitC_lines c ls r fun x hx=>h x (by simp [hx]);have e:(l::ls).flatMap (fun l=>l++[c])++r=l++c::(ls.flatMap (fun l=>l++[c])++r):=by simp
  rw [e,splitC_app c l _ (h l (by simp)),ih];rfl
theorem name_not {s:ByteArray}(h:isName s=true){d:UInt8}(hd:low8 d=false):d∉s.data.toList:=fun hm=>by
 rw [(name_low h).2 d hm] at hd;cases hd
theorem textK_low:∀c∈textK.data.toList,low8 c=true:=by decide
def exprC (c:UInt8):Bool:=low8 c || decide (c=40) || decide (c=41) || decide (c=124) || decide (c=32) || decide (c=42) || decide (c=43) || decide (c=63)
theorem join_memU (c:UInt8)(sep:List UInt8):∀l:List (List UInt8),c∈Lib.join l sep→(∃x∈l,c∈x)∨c∈sep
 |[],h=>by simp [Lib.join] at h
 |x::r,h=>by
  rw [Lib.join_cons] at h;simp only [Lib.joinTail,List.mem_append,List.mem_flatten,List.mem_map] at h;rcases h with h|⟨_,⟨y,hy,rfl⟩,h⟩
  ·exact .inl ⟨x,by simp,h⟩
  ·rcases List.mem_append.1 h with h|h
   ·exact .inr h
   ·exact .inl ⟨y,by simp [hy],h⟩
theorem flatMap_cong {α β:Type}{f g:α→List β}:∀ {l:List α},(∀x∈l,f x=g x)→l.flatMap f=l.flatMap g
 |[],_=>rfl
 |x::l,h=>by
  rw [List.flatMap_cons,List.flatMap_cons,h x (by simp),flatMap_cong fun y hy=>h y (by simp [hy])]
theorem text_chars (e:E)(b:Bool)(h:e.ok=true):∀c∈(e.text b).data.toList,exprC c=true:=by
 have hpar:∀(s:ByteArray),(∀c∈s.data.toList,exprC c=true)→∀c∈(par b s).data.toList,exprC c=true:=by
  intro s hs c hc;unfold par at hc;split at hc
  ·simp only [ByteArray.data_append,Array.toList_append,List.mem_append] at hc;rcases hc with (hc|hc)|hc
   ·simp at hc;subst hc;decide
   ·exact hs c hc
   ·simp at hc;subst hc;decide
  ·exact hs c hc
 have hjoin:¬e.op=110→∀(sep:ByteArray) (b':Bool),(∀c∈sep.data.toList,exprC c=true)→∀c∈(joinB (e.kids.map fun k=>k.text b') sep).data.toList,exprC c=true:=by
  intro hop sep b' hs c hc;simp only [joinB] at hc;rcases join_memU c _ _ hc with ⟨x,hx,hcx⟩|hcs
  ·simp only [List.mem_map] at hx;obtain ⟨y,⟨k,hk,rfl⟩,rfl⟩:=hx;exact text_chars k b' (E.ok_kids h hop k hk).1 c hcx
  ·exact hs c hcs
 rw [text_eq];intro c hc;by_cases h1:e.op=110
 ·rw [if_pos h1] at hc;rw [E.ok_eq] at h;simp only [h1,if_true,Bool.and_eq_true,Bool.or_eq_true,decide_eq_true_eq] at h;have hl:low8 c=true:=by
   rcases h.2 with h2|h2
   ·exact (name_low h2).2 c hc
   ·have:e.name=textK:=h2;rw [this] at hc;exact textK_low c hc
  simp [exprC,hl]
 ·rw [if_neg h1] at hc;by_cases h2:e.op=115
  ·rw [if_pos h2] at hc;split at hc
   ·simp at hc;rcases hc with rfl|rfl<;>decide
   ·exact hpar _ (hjoin h1 ⟨#[32]⟩ _ (by simp;decide)) c hc
  ·rw [if_neg h2] at hc;by_cases h3:e.op=97
   ·rw [if_pos h3] at hc;exact hpar _ (hjoin h1 ⟨#[124]⟩ _ (by simp;decide)) c hc
   ·rw [if_neg h3] at hc;simp only [ByteArray.data_append,Array.toList_append,List.mem_append] at hc;rcases hc with hc|hc
    ·exact hjoin h1 ⟨#[]⟩ _ (by simp) c hc
    ·rcases E.ok_opsS h h1 h2 h3 with ho|ho|ho
     ·rw [ho,enc42] at hc;simp at hc;subst hc;decide
     ·rw [ho,enc43] at hc;simp at hc;subst hc;decide
     ·rw [ho,enc63] at hc;simp at hc;subst hc;decide
termination_by SizeOf.sizeOf e
decreasing_by exact E.kids_lt hk
theorem cut_gen (p r t:Bs)(c:UInt8)(h:c∉p):Lib.cut (p++(c::t)++r) (c::t)=(p,r,true):=by
 have hi:Lib.index (p++(c::t)++r) (c::t)=(p.length:Nat):=by
  refine Lib.index_first (by simp) ?_ fun k hk=>?_
  ·simp [Lib.occAt,List.append_assoc]
  ·have hd:(p++(c::t)++r).drop k=p[k]::((p++(c::t)++r).drop (k+1)):=by
    rw [List.drop_eq_getElem_cons (by simp;omega)];simp [List.getElem_append_left,hk]
   have hne:¬c=p[k]:=fun e=>h (by rw [e];simp);simp only [Lib.occAt,hd,List.isPrefixOf];simp [hne]
 unfold Lib.cut;rw [hi,if_pos (by omega)];simp [List.append_assoc]
def dPart (d:Dc):Bs:=d.name.data.toList++61::valsB d.vals
theorem sepBy_mem (s c:UInt8):∀l:List Bs,c∈sepBy s l→(∃x∈l,c∈x)∨c=s
 |[],h=>by simp [sepBy] at h
 |x::l,h=>by
  simp only [sepBy,sepTail,List.mem_append,List.mem_flatMap,List.mem_cons] at h;rcases h with h|⟨y,hy,h|h⟩
  ·exact .inl ⟨x,by simp,h⟩
  ·exact .inr h
  ·exact .inl ⟨y,by simp [hy],h⟩
theorem valsB_chars {l:List ByteArray}(h:∀v∈l,isName v=true):∀c∈valsB l,low8 c=true∨c=124∨c=42:=by
 intro c hc;unfold valsB at hc;split at hc
 ·simp at hc;exact .inr (.inr hc)
 ·rcases sepBy_mem 124 c _ hc with ⟨x,hx,hcx⟩|rfl
  ·obtain ⟨v,hv,rfl⟩:=List.mem_map.1 hx;exact .inl ((name_low (h v hv)).2 c hcx)
  ·exact .inr (.inl rfl)
theorem vals_ok {d:Dc}(h:d.ok=true):∀v∈d.vals,isName v=true:=by
 simp only [Dc.ok,Bool.and_eq_true] at h;exact vals_names d.vals 0 d.vals h.1
theorem part_not {d:Dc}(hn:isName d.name=true)(h:d.ok=true){x:UInt8}(h1:low8 x=false)(h2:x≠124)(h3:x≠42)(h4:x≠61):x∉dPart d:=by
 intro hm;simp only [dPart,List.mem_append,List.mem_cons] at hm;rcases hm with hm|hm|hm
 ·exact name_not hn h1 hm
 ·exact h4 hm
 ·rcases valsB_chars (vals_ok h) x hm with h5|h5|h5
  ·rw [h5] at h1;cases h1
  ·exact h2 h5
  ·exact h3 h5
theorem bs_map (l:List ByteArray):(l.map (·.data.toList)).map bs=l:=by
 rw [List.map_map]
 conv=>rhs;rw [←List.map_id l]
 exact List.map_congr_left fun x _=>bsExt (by simp [bs])
theorem vals_split {l:List ByteArray}(h:∀v∈l,isName v=true):(if valsB l = [42] then [] else (splitC 124 (valsB l)).map bs)=l:=by
 cases l with
 |nil=>rfl
 |cons v r=>
  obtain ⟨hv1,hv2⟩:=name_low (h v (by simp));obtain ⟨c,t,hct⟩:=List.exists_cons_of_ne_nil hv1;have hj:joinV (v::r)=c::(t++sepTail 124 (r.map (·.data.toList))):=by simp [joinV,sepBy,hct]
  have hc:=hv2 c (by rw [hct];simp);have hvb:valsB (v::r)=joinV (v::r):=by rw [valsB,if_neg (by rw [hj];simp)]
  have hne:¬joinV (v::r) = [42]:=by
   rw [hj];intro e;simp only [List.cons.injEq] at e;rw [e.1] at hc;exact absurd hc (by decide)
  rw [hvb,if_neg hne,joinV,List.map_cons,splitC_sep 124 _ _ (name_not (h v (by simp)) (by decide)) (fun p hp=>by
   obtain ⟨w,hw,rfl⟩:=List.mem_map.1 hp;exact name_not (h w (by simp [hw])) (by decide))]
  exact bs_map (v::r)
theorem decl_back {d:Dc}(hn:isName d.name=true)(h:d.ok=true):declOf (dPart d)=d∧(cutT (dPart d) [61]).2.2=true:=by
 have hc:cutT (dPart d) [61]=(d.name.data.toList,valsB d.vals,true):=by
  have:=cut_gen d.name.data.toList (valsB d.vals) [] 61 (name_not hn (by decide));have e:dPart d=d.name.data.toList++[61]++valsB d.vals:=by simp [dPart]
  rw [e];exact this
 refine ⟨?_,by rw [hc]⟩;unfold declOf;rw [hc];simp only;rw [vals_split (vals_ok h)];obtain ⟨nm,vs⟩:=d;simp only [Dc.mk.injEq,and_true];exact bsExt (by simp [bs])
theorem decls_back:∀(ds acc:List Dc),(∀d∈ds,isName d.name=true∧d.ok=true)→declsFrom acc (ds.map dPart)=some (acc++ds)
 |[],acc,_=>by simp [declsFrom]
 |d::ds,acc,h=>by
  obtain ⟨h1,h2⟩:=decl_back (h d (by simp)).1 (h d (by simp)).2;have ih:=decls_back ds (acc++[d]) fun x hx=>h x (by simp [hx]);simp only [List.map_cons,declsFrom,h2,if_true,h1,ih,List.append_assoc,List.singleton_append]
def kHead (k:Kd):Bs:=sepBy 32 (k.name.data.toList::k.attrs.map dPart)
def kBody (k:Kd):Bs:=kHead k++[58,32]++k.content.bytes
theorem kHead_eq (k:Kd):kHead k=k.name.data.toList++k.attrs.flatMap declB:=by
 simp only [kHead,sepBy,sepTail,List.flatMap_map];congr 1
theorem lineK_eq (k:Kd):lineK k=(nodeS++kBody k)++[10]:=by
 simp [lineK,headB,kBody,kHead_eq]
theorem head_not {k:Kd}{s:Sc}(h:k.ok s=true){x:UInt8}(h1:low8 x=false)(h2:x≠124)(h3:x≠42)(h4:x≠61)(h5:x≠32):x∉kHead k:=by
 obtain ⟨n1,n2,_⟩:=kind_names h;intro hm;rcases sepBy_mem 32 x _ hm with ⟨y,hy,hxy⟩|hx
 ·rcases List.mem_cons.1 hy with rfl|hy
  ·exact name_not n1 h1 hxy
  ·obtain ⟨d,hd,rfl⟩:=List.mem_map.1 hy;exact part_not (n2 d hd).1 (n2 d hd).2 h1 h2 h3 h4 hxy
 ·exact h5 hx
theorem content_bytes {e:E}(h:e.right=true):e.bytes=(e.text false).data.toList:=by rw [E.bytes,E.print,if_pos h]
theorem content_back {e:E}(h:e.right=true)(hc:e.cnt≤1000):parse (bs e.bytes)=(e,0):=by
 have:bs e.bytes=e.text false:=by rw [content_bytes h];exact bsExt (by simp [bs])
 rw [this];exact parse_text e h hc
theorem head_split {k:Kd}{s:Sc}(h:k.ok s=true):splitC 32 (kHead k)=k.name.data.toList::k.attrs.map dPart:=by
 obtain ⟨n1,n2,_⟩:=kind_names h;exact splitC_sep 32 _ _ (name_not n1 (by decide)) fun p hp=>by
  obtain ⟨d,hd,rfl⟩:=List.mem_map.1 hp;exact part_not (n2 d hd).1 (n2 d hd).2 (by decide) (by decide) (by decide) (by decide)
theorem bs_data (s:ByteArray):bs s.data.toList=s:=bsExt (by simp [bs])
theorem kind_back {k:Kd}{s:Sc}(h:k.ok s=true)(hc:k.content.cnt≤1000):kindR (kBody k)=(k,true):=by
 obtain ⟨n1,n2,n3⟩:=kind_names h;have hcut:cutT (kBody k) [58,32]=(kHead k,k.content.bytes,true):=cut_gen (kHead k) k.content.bytes [32] 58 (head_not h (by decide) (by decide) (by decide) (by decide) (by decide));unfold kindR;rw [hcut];simp only [if_true,head_split h,List.tail_cons,decls_back k.attrs [] n2,List.nil_append,List.headD_cons,content_back n3 hc,bs_data];obtain ⟨a,b,c⟩:=k;simp
theorem bytes_not10 {k:Kd}{s:Sc}(h:k.ok s=true):(10:UInt8)∉nodeS++kBody k:=by
 obtain ⟨n1,n2,n3⟩:=kind_names h;intro hm;simp only [kBody,List.mem_append] at hm;rcases hm with hm|(hm|hm)|hm
 ·exact absurd hm (by decide)
 ·exact head_not h (by decide) (by decide) (by decide) (by decide) (by decide) hm
 ·exact absurd hm (by decide)
 ·have hok:k.content.ok=true:=by simp [E.right] at n3;exact n3.2
  rw [content_bytes n3] at hm;exact absurd (text_chars k.content false hok 10 hm) (by decide)
theorem mark_not10 {m:ByteArray}(h:isName m=true):(10:UInt8)∉markS++m.data.toList:=by
 intro hm;rcases List.mem_append.1 hm with hm|hm
 ·exact absurd hm (by decide)
 ·exact name_not h (by decide) hm
theorem lines_of {s:Sc}(h:s.ok=true):splitC 10 s.bytes=s.kinds.map (fun k=>nodeS++kBody k)++(s.marks.map (fun m=>markS++m.data.toList)++[[]]):=by
 obtain ⟨_,_,_,n4⟩:=Sc.ok_kinds h;have e:s.bytes=(s.kinds.map (fun k=>nodeS++kBody k)).flatMap (fun l=>l++[10])++((s.marks.map (fun m=>markS++m.data.toList)).flatMap (fun l=>l++[10])++[]):=by
  unfold Sc.bytes;rw [List.flatMap_map,List.flatMap_map,List.append_nil];congr 1;exact flatMap_cong fun k _=>lineK_eq k
 rw [e,splitC_lines 10 _ _ (fun l hl=>by
  obtain ⟨k,hk,rfl⟩:=List.mem_map.1 hl;exact bytes_not10 (Sc.ok_kind h hk)),splitC_lines 10 _ _ (fun l hl=>by
  obtain ⟨m,hm,rfl⟩:=List.mem_map.1 hl;exact mark_not10 (rise_names _ _ n4 m hm))]
 rfl
theorem node_pre (b:Bs):preB nodeS (nodeS++b)=true∧(nodeS++b).drop 5=b∧preB markS (nodeS++b)=false:=by
 have h1:preB nodeS (nodeS++b)=true:=preB_iff.2 ⟨b,rfl⟩;exact ⟨h1,by simp [nodeS],node_mark h1⟩
theorem mark_pre (b:Bs):preB markS (markS++b)=true∧(markS++b).drop 5=b∧preB nodeS (markS++b)=false:=by
 refine ⟨preB_iff.2 ⟨b,rfl⟩,by simp [markS],by simp [preB,nodeS,markS]⟩
theorem linesFrom_marks:∀(l:List ByteArray) (ks:List Kd) (ms:List ByteArray),linesFrom ks ms (l.map (fun m=>markS++m.data.toList)++[[]])=some (ks,ms++l)
 |[],ks,ms=>by simp [linesFrom,preB,nodeS,markS,marksF]
 |m::l,ks,ms=>by
  obtain ⟨h1,h2,h3⟩:=mark_pre m.data.toList;have ih:=linesFrom_marks l ks (ms++[m]);simp only [List.map_cons,List.cons_append,linesFrom,h3,Bool.false_eq_true,false_and,if_false,marksF,h1,if_true,h2,bs_data,ih];simp
theorem linesFrom_kinds {s:Sc}:∀(l:List Kd) (r:List Bs) (ks:List Kd) (ms:List ByteArray),(∀k∈l,k.ok s=true∧k.content.cnt≤1000)→ks.length+l.length≤13→linesFrom ks ms (l.map (fun k=>nodeS++kBody k)++r)=linesFrom (ks++l) ms r
 |[],r,ks,ms,_,_=>by simp
 |k::l,r,ks,ms,h,hl=>by
  obtain ⟨h1,h2,h3⟩:=node_pre (kBody k);simp only [List.length_cons] at hl;have ih:=linesFrom_kinds l r (ks++[k]) ms (fun x hx=>h x (by simp [hx])) (by simp;omega);have hk:=kind_back (h k (by simp)).1 (h k (by simp)).2;have h12:(ks.length:Int)≤12:=by omega
  have hmf:marksF (nodeS++kBody k) ms=ms:=by rw [marksF,h3];rfl
  simp only [List.map_cons,List.cons_append,linesFrom,h1,h12,and_self,if_true,h2,hk,hmf,ih];simp
theorem g22 (Gl:Granted)(s:Sc)(name:ByteArray)(hk:s.kinds.length≤1000000):Fun Tryz.prog Gl 28 [s.av,vS name] [] (vI (s.place name)) []:=by
 refine fun_of (T:=T4) (n:=22) (rs:=[.tmp 4]) Tryz.func28 (by kernel_rfl) rfl rfl rfl tok4 mixed (by simp) fun C hC=>?_;refine hC.go [] 60 ?_;simp [Sc.av,Sc.cells];refine go_loop (ι:={i:Nat // i≤s.kinds.length∧s.place name=firstAt (isKind name) (s.kinds.drop i) i}) (fun x=>⟨[(1,vS name),(2,.ptr (.loc 2) 0),(5,vI x.1)],[(.loc 2,some (.box 32 s.cells))]⟩) (fun x=>s.kinds.length-x.1) ⟨0,by simp [Sc.place]⟩ [] (by simp [Sc.cells]) fun x ih=>?_;obtain ⟨i,hi,hn⟩:=x;simp only at hi hn ih;by_cases hlt:i<s.kinds.length
 ·have hw:=wr64 ((i:Int)+1) (by omega);rw [List.drop_eq_getElem_cons hlt] at hn;simp only [firstAt] at hn;by_cases hq:s.kinds[i].name=name
  ·rw [if_pos (by simp [isKind,hq])] at hn;refine hC.go [] 60 ?_;simp [hlt,Sc.cells,Kd.pv_eq,E.pv_eq,hq,hn]
  ·rw [if_neg (by simp [isKind,hq])] at hn;refine hC.go [] 60 ?_;simp [hlt,Sc.cells,Kd.pv_eq,E.pv_eq,hq];exact go_to [] (ih ⟨i+1,hlt,hn⟩ (by simp;omega)) (by simp [hw,Sc.cells])
 ·rw [List.drop_eq_nil_of_le (by omega)] at hn;refine hC.go [] 60 ?_;have hlt':¬(i:Int)<s.kinds.length:=by omega
  simp [hlt,Sc.cells,hn,firstAt]
set_option maxRecDepth 20000 in
set_option maxHeartbeats 4000000 in
theorem g60 (Gl:Granted)(l:List ByteArray)(hs:∀s∈l,s.size≤M47):Fun Tryz.prog Gl 49 [.pv (strs l)] [] (vB (rise l)) []:=by
 refine fun_of (T:=T4) (n:=32) (rs:=[.tmp 2]) Tryz.func49 (by kernel_rfl) rfl rfl rfl tok4 mixed (by simp) fun C hC=>?_;refine hC.go [] 60 ?_;simp;refine go_len 0 1 (l.map fun s=>[.val (.string s)]) (by simp) fun hk=>?_;rw [List.length_map] at hk;refine go_loop (ι:={i:Nat // i≤l.length∧rise l=riseFrom (prevAt l i) (l.drop i)}) (fun x=>⟨[(0,.pv (strs l)),(3,vI x.1)],[]⟩)
  (fun x=>l.length-x.1) ⟨0,by simp [rise,prevAt]⟩ [] (by simp) fun x ih=>?_
 obtain ⟨i,hi,hn⟩:=x;simp only at hi hn ih;refine hC.go [] 60 ?_;by_cases hlt:i<l.length
 ·rw [List.drop_eq_getElem_cons hlt] at hn;simp only [riseFrom] at hn;have hw:=wr64 ((i:Int)+1) (by omega);simp [hlt];refine hC.drawn (by kernel_rfl) (by simp) ?_;refine hC.go [] 60 ?_;simp [hlt];refine hC.call [] (f100 Gl l[i] (by have:=hs l[i] (by simp);simp only [M47] at this;omega)) (by simp) ?_;refine hC.go [] 60 ?_;cases hnm:isName l[i] with
  |false=>
   simp [hn,hnm]
  |true=>
   rw [hnm,Bool.true_and] at hn;by_cases h0:0<(i:Int)
   ·have hw2:=wr64 ((i:Int)-1) (by omega);have hi1:i-1<l.length:=(by omega);have h0n:0<i:=(by omega);have e1:((i:Int)-1)=((i-1:Nat):Int):=(by omega);have hp:prevAt l i=some l[i-1]:=by
     unfold prevAt;rw [if_neg (by omega),List.getElem?_eq_getElem hi1]
    rw [hp] at hn;simp only at hn;rw [e1] at hw2;cases hu:notUp l[i] l[i-1] with
    |true=>
     rw [hu] at hn;have hu':(Op.bytesLess l[i].toList l[i-1].toList || decide (l[i]=l[i-1]))=true:=hu;simp [hlt,h0n,hw2,e1,hi1,hu',hn]
    |false=>
     rw [hu] at hn;have hu':(Op.bytesLess l[i].toList l[i-1].toList || decide (l[i]=l[i-1]))=false:=hu;simp [hlt,h0n,hw2,e1,hi1,hu'];exact go_to [] (ih ⟨i+1,hlt,by rw [prevAt_succ hlt,hn];simp⟩ (by simp;omega)) (by simp [hw])
   ·have hi0:i=0:=(by omega);subst hi0;simp only [prevAt,if_true,Bool.true_and] at hn;simp;exact go_to [] (ih ⟨1,hlt,by rw [hn];simp [prevAt,List.getElem?_eq_getElem hlt]⟩ (by simp;omega)) (by simp [wr64 1 (by omega)])
 ·rw [List.drop_eq_nil_of_le (by omega)] at hn;simp [hlt,hn,riseFrom]
theorem any_take_succ (l:List ByteArray)(q:ByteArray→Bool)(k:Nat)(h:k<l.length):(l.take (k+1)).any q=((l.take k).any q || q l[k]):=by
 rw [List.take_add_one,List.getElem?_eq_getElem h,List.any_append];simp
set_option maxRecDepth 20000 in
set_option maxHeartbeats 4000000 in
theorem g103 (Gl:Granted)(d:Dc)(hs:∀s∈d.vals,s.size≤M47):Fun Tryz.prog Gl 85 [.pv (strs d.vals)] [] (vB d.ok) []:=by
 obtain ⟨l,hl⟩:∃l,d.vals=l:=⟨_,rfl⟩;have hdok:d.ok=(valsFrom l 0 l&&decide ((l.length:Int)≤6)):=by rw [Dc.ok,valsOk,hl]
 rw [hl] at hs ⊢;refine fun_of (T:=T4) (n:=34) (rs:=[.tmp 2]) Tryz.func85 (by kernel_rfl) rfl rfl rfl tok4 mixed (by simp) fun C hC=>?_;refine hC.go [] 60 ?_;simp;refine go_len 0 1 (l.map fun s=>[.val (.string s)]) (by simp) fun hk=>?_;rw [List.length_map] at hk;refine go_loop (ι:={i:Nat // i≤l.length∧valsFrom l 0 l=valsFrom l i (l.drop i)}) (fun x=>⟨[(0,.pv (strs l)),(3,vI x.1)],[]⟩) (fun x=>l.length-x.1) ⟨0,by simp⟩ [] (by simp) fun x ih=>?_;obtain ⟨i,hi,hn⟩:=x;simp only at hi hn ih;by_cases hlt:i<l.length
 ·have hw:=wr64 ((i:Int)+1) (by omega);rw [List.drop_eq_getElem_cons hlt] at hn;simp only [valsFrom] at hn;refine hC.go [] 60 ?_;simp [hlt];refine go_loop (ι:={k:Nat // k≤i∧(l.take k).any (fun x=>decide (l[i]=x))=false}) (fun x=>⟨[(0,.pv (strs l)),(3,vI i),(4,vI x.1)],[]⟩) (fun x=>i-x.1) ⟨0,by simp⟩ [] (by simp) fun x ih2=>?_;obtain ⟨k,hk2,hany⟩:=x;simp only at hk2 hany ih2;by_cases hki:k<i
  ·have hw2:=wr64 ((k:Int)+1) (by omega);have hkl:k<l.length:=(by omega);by_cases he:l[k]=l[i]
   ·have hbad:(l.take i).any (fun x=>decide (l[i]=x))=true:=by
     rw [List.any_eq_true];exact ⟨l[k],List.mem_take_iff_getElem.2 ⟨k,by omega,rfl⟩,by simp [he]⟩
    have:d.ok=false:=(by rw [hdok,hn,hbad];simp);refine hC.go [] 60 ?_;simp [hki];refine hC.drawn (by kernel_rfl) (by simp) ?_;refine hC.go [] 60 ?_;simp [hkl,hlt,he,this]
   ·refine hC.go [] 60 ?_;simp [hki];refine hC.drawn (by kernel_rfl) (by simp) ?_;refine hC.go [] 60 ?_;simp [hkl,hlt,he];exact go_to [] (ih2 ⟨k+1,hki,by rw [any_take_succ _ _ _ hkl,hany];simpa using fun e=>he e.symm⟩ (by simp;omega)) (by simp [hw2])
  ·have hke:k=i:=(by omega);subst hke;rw [hany] at hn;refine hC.go [] 60 ?_;simp [hlt];refine hC.call [] (f100 Gl l[k] (by have:=hs l[k] (by simp);simp only [M47] at this;omega)) (by simp) ?_;refine hC.go [] 60 ?_;cases hnm:isName l[k] with
   |false=>
    have:d.ok=false:=(by rw [hdok,hn,hnm];simp);simp [this]
   |true=>
    rw [hnm] at hn;simp;exact go_to [] (ih ⟨k+1,hlt,by rw [hn];simp⟩ (by simp;omega)) (by simp [hw])
 ·rw [List.drop_eq_nil_of_le (by omega)] at hn;simp only [valsFrom] at hn;rw [hn,Bool.true_and] at hdok;refine hC.go [] 60 ?_;simp [hlt,hdok]
theorem take_rowK {α β:Type}(f:α→β){l:List α}{i:Nat}(h:i<l.length):(l.map f).take (i+1)=(l.map f).take i++[f l[i]]:=by
 rw [List.take_add_one,List.getElem?_map,List.getElem?_eq_getElem h];rfl
set_option maxRecDepth 20000 in
set_option maxHeartbeats 4000000 in
theorem g59 (Gl:Granted)(k:Kd)(s:Sc)(hk:k.fit)(hsk:s.kinds.length≤1000000):Fun Tryz.prog Gl 48 [s.av,k.av] [] (vB (k.ok s)) []:=by
 obtain ⟨f1,f2,f3,f4,f5⟩:=hk;have hM:M47=140737488355328:=rfl;have hok:k.ok s=(k.attrs.all Dc.ok&&(isName k.name&&(rise (k.attrs.map (·.name))&&(k.content.right&&!(k.content.names.any s.unknown))))):=rfl;have hnames:k.content.names.any s.unknown=k.content.namesR.any s.unknown:=by
  rw [Bool.eq_iff_iff,List.any_eq_true,List.any_eq_true];constructor
  ·rintro ⟨x,h1,h2⟩;exact ⟨x,(namesR_mem _ x).2 ((names_mem _ x).1 h1),h2⟩
  ·rintro ⟨x,h1,h2⟩;exact ⟨x,(names_mem _ x).2 ((namesR_mem _ x).1 h1),h2⟩
 rw [hnames] at hok;refine fun_of (T:=T4) (n:=71) (rs:=[.tmp 4]) Tryz.func48 (by kernel_rfl) rfl rfl rfl tok4 mixed (by simp) fun C hC=>?_;refine hC.go [] 60 ?_;simp [Kd.av,Kd.cells,Sc.av,Sc.cells,E.cells];refine go_loop (ι:={i:Nat // i≤k.attrs.length∧k.attrs.all Dc.ok=(k.attrs.drop i).all Dc.ok}) (fun x=>⟨[(2,.ptr (.loc 2) 0),(3,.ptr (.loc 3) 0),(5,.own (.can 0)),(6,vI x.1)],
  [(.loc 2,some (.box 32 s.cells)),(.loc 3,some (.box 72 k.cells)),(.can 0,some (.row 9 1 ((k.attrs.map fun d=>[PV.val (.string d.name)]).take x.1)))]⟩)
  (fun x=>k.attrs.length-x.1) ⟨0,by simp⟩ [(.can 0,.nil)] (by simp [Kd.cells,E.cells,Sc.cells]) fun x ih=>?_
 obtain ⟨i,hi,hn⟩:=x;simp only at hi hn ih;by_cases hlt:i<k.attrs.length
 ·have hw:=wr64 ((i:Int)+1) (by omega);obtain ⟨d,hd⟩:∃d,k.attrs[i]=d:=⟨_,rfl⟩;have hdm:d∈k.attrs:=by rw [←hd];simp
  rw [List.drop_eq_getElem_cons hlt,List.all_cons,hd] at hn;have htk:=take_rowK (fun d:Dc=>[PV.val (.string d.name)]) hlt;rw [hd] at htk;refine hC.go [] 60 ?_;simp [Kd.cells,E.cells,hlt,hd];refine ⟨by omega,?_⟩;simp [Kd.cells,E.cells,hlt,hd];refine hC.call [] (g103 Gl d (f5 d hdm).2) (by simp) ?_;cases hdo:d.ok with
  |false=>
   have:k.ok s=false:=(by rw [hok,hn,hdo];rfl);refine hC.go [] 60 ?_;simp [this]
  |true=>
   rw [hdo,Bool.true_and] at hn;refine hC.go [] 60 ?_;simp;exact go_to [(.can 0,.nm (.loc 24))] (ih ⟨i+1,hlt,hn⟩ (by simp;omega)) (by simp [hw,htk,Kd.cells,E.cells,Sc.cells])
 ·rw [List.drop_eq_nil_of_le (by omega),List.all_nil] at hn;rw [hn,Bool.true_and] at hok;have hnm:(k.attrs.map fun d=>[PV.val (.string d.name)]).take i=(k.attrs.map (·.name)).map fun s=>[PV.val (.string s)]:=by
   rw [List.take_of_length_le (by simp;omega),List.map_map];rfl
  rw [hnm];have hlt':¬(i:Int)<k.attrs.length:=by omega
  refine hC.go [] 60 ?_;simp [hlt,Kd.cells,E.cells];refine hC.call [] (f100 Gl k.name (by omega)) (by simp) ?_;cases hnk:isName k.name with
  |false=>
   have:k.ok s=false:=(by rw [hok,hnk];rfl);refine hC.go [] 60 ?_;simp [this,Kd.cells,E.cells]
  |true=>
   rw [hnk,Bool.true_and] at hok;refine hC.go [] 60 ?_;simp;refine hC.call [.can 0] (fun_ownRow (a:=[]) (b:=[]) (e:=9) (by simp) rfl (g60 Gl (k.attrs.map (·.name)) fun s hs=>by
    obtain ⟨d,hd,rfl⟩:=List.mem_map.1 hs;exact (f5 d hd).1)) (by simp) ?_
   cases hr:rise (k.attrs.map (·.name)) with
   |false=>
    have:k.ok s=false:=(by rw [hok,hr];rfl);refine hC.go [] 60 ?_;simp [this,Kd.cells,E.cells]
   |true=>
    rw [hr,Bool.true_and] at hok;refine hC.go [] 60 ?_;simp [Kd.cells,E.cells];refine hC.call [] (f56 Gl k.content f2) (by simp [E.av,E.cells]) ?_;cases hrt:k.content.right with
    |false=>
     have:k.ok s=false:=(by rw [hok,hrt];rfl);refine hC.go [] 60 ?_;simp [this]
    |true=>
     rw [hrt,Bool.true_and] at hok;have hnl:=namesR_len k.content;refine hC.go [] 60 ?_;simp [Kd.cells,E.cells];refine hC.call [] (g105 Gl k.content (by omega)) (by simp [E.av,E.cells]) ?_;generalize k.content.namesR=m at hok hnl;refine hC.go [] 60 ?_;simp;refine go_loop (ι:={j:Nat // j≤m.length∧m.any s.unknown=(m.drop j).any s.unknown}) (fun x=>⟨[(2,.ptr (.loc 2) 0),(7,.pv (strs m)),(8,vI x.1)],[(.loc 2,some (.box 32 s.cells))]⟩)
      (fun x=>m.length-x.1) ⟨0,by simp⟩ [] (by simp [Sc.cells]) fun x ih2=>?_
     obtain ⟨j,hj,hn2⟩:=x;simp only at hj hn2 ih2;by_cases hlj:j<m.length
     ·have hw2:=wr64 ((j:Int)+1) (by omega);rw [List.drop_eq_getElem_cons hlj,List.any_cons] at hn2;have hun:s.unknown m[j]=(decide (s.place m[j]<0)&&!decide (m[j]=textK)):=rfl;refine hC.go [] 60 ?_;simp [hlj,Sc.cells];refine hC.drawn (by kernel_rfl) (by simp [Sc.cells]) ?_;by_cases ht:m[j]=textK
      ·have ht':m[j]=⟨#[116,101,120,116]⟩:=ht;have hu:s.unknown m[j]=false:=(by rw [hun];simp [ht]);rw [hu,Bool.false_or] at hn2;refine hC.go [] 60 ?_;simp [hlj,ht',Sc.cells];exact go_to [] (ih2 ⟨j+1,hlj,hn2⟩ (by simp;omega)) (by simp [hw2,Sc.cells])
      ·have ht':¬m[j]=⟨#[116,101,120,116]⟩:=ht;have hu:s.unknown m[j]=decide (s.place m[j]<0):=(by rw [hun];simp [ht]);rw [hu] at hn2;refine hC.go [] 60 ?_;simp [hlj,ht',Sc.cells];refine hC.call [] (g22 Gl s m[j] hsk) (by simp [Sc.av,Sc.cells]) ?_;by_cases hp:s.place m[j]<0
       ·have:k.ok s=false:=(by rw [hok,hn2];simp [hp]);refine hC.go [] 60 ?_;simp [hp,this,Sc.cells]
       ·rw [decide_eq_false hp,Bool.false_or] at hn2;refine hC.go [] 60 ?_;simp [hp,Sc.cells];exact go_to [] (ih2 ⟨j+1,hlj,hn2⟩ (by simp;omega)) (by simp [hw2,Sc.cells])
     ·rw [List.drop_eq_nil_of_le (by omega),List.any_nil] at hn2;have:k.ok s=true:=(by rw [hok,hn2];rfl);refine hC.go [] 60 ?_;simp [hlj,this]
set_option maxRecDepth 20000 in
set_option maxHeartbeats 4000000 in
theorem g24 (Gl:Granted)(s:Sc)(hf:s.fit)(hk:s.kinds.length≤1000000)(hm:s.marks.length≤1000000):Fun Tryz.prog Gl 26 [s.av] [] (vB s.ok) []:=by
 have hsok:s.ok=(kindsFrom s 0 s.kinds&&(decide (0<(s.kinds.length:Int))&&(decide ((s.kinds.length:Int)≤12)&&(decide ((s.marks.length:Int)≤12)&&rise s.marks)))):=rfl;refine fun_of (T:=T4) (n:=52) (rs:=[.tmp 2]) Tryz.func26 (by kernel_rfl) rfl rfl rfl tok4 mixed (by simp) fun C hC=>?_;refine hC.go [] 60 ?_;simp [Sc.av,Sc.cells];refine go_loop (ι:={i:Nat // i≤s.kinds.length∧kindsFrom s 0 s.kinds=kindsFrom s i (s.kinds.drop i)}) (fun x=>⟨[(1,.ptr (.loc 1) 0),(3,vI x.1)],[(.loc 1,some (.box 32 s.cells))]⟩)
  (fun x=>s.kinds.length-x.1) ⟨0,by simp⟩ [] (by simp [Sc.cells]) fun x ih=>?_
 obtain ⟨i,hi,hn⟩:=x;simp only at hi hn ih;by_cases hlt:i<s.kinds.length
 ·have hw:=wr64 ((i:Int)+1) (by omega);obtain ⟨k,hkk⟩:∃k,s.kinds[i]=k:=⟨_,rfl⟩;rw [List.drop_eq_getElem_cons hlt,hkk] at hn;simp only [kindsFrom] at hn;refine hC.go [] 60 ?_;simp [hlt,Sc.cells];refine hC.drawn (by kernel_rfl) (by simp) ?_;refine hC.go [] 60 ?_;simp [hlt,hkk,Kd.pv_eq,E.pv_eq];refine hC.call [] (g59 Gl k s (hf.1 k (by rw [←hkk];simp)) hk) (by simp [Sc.av,Sc.cells,Kd.av,Kd.cells,E.cells]) ?_;cases hko:k.ok s with
  |false=>
   have:s.ok=false:=(by rw [hsok,hn,hko];simp);refine hC.go [] 60 ?_;simp [this]
  |true=>
   rw [hko,Bool.and_true] at hn;refine hC.go [] 60 ?_;simp [hlt,hkk,Kd.pv_eq,E.pv_eq];refine hC.call [] (g22 Gl s k.name hk) (by simp [Sc.av,Sc.cells]) ?_;by_cases hp:s.place k.name=(i:Int)
   ·rw [decide_eq_true hp,Bool.true_and] at hn;refine hC.go [] 60 ?_;simp [hp];exact go_to [] (ih ⟨i+1,hlt,hn⟩ (by simp;omega)) (by simp [hw,Sc.cells])
   ·have:s.ok=false:=(by rw [hsok,hn];simp [hp]);refine hC.go [] 60 ?_;simp [hp,this]
 ·rw [List.drop_eq_nil_of_le (by omega)] at hn;simp only [kindsFrom] at hn;rw [hn,Bool.true_and] at hsok;have hlt':¬(i:Int)<s.kinds.length:=by omega
  by_cases h1:1≤(s.kinds.length:Int)
  ·have h1':1≤s.kinds.length:=(by omega);have h1s:0<(s.kinds.length:Int):=(by omega);have h1t:0<s.kinds.length:=(by omega);by_cases h2:(s.kinds.length:Int)≤12
   ·have h2':s.kinds.length≤12:=(by omega);by_cases h3:(s.marks.length:Int)≤12
    ·have h3':s.marks.length≤12:=(by omega);simp only [h1s,h2,h3,decide_true,Bool.true_and] at hsok;refine hC.go [] 60 ?_;simp [hlt,hlt',Sc.cells,h1,h2,h3,h1',h2',h3',h1s,h1t];refine hC.call [] (g60 Gl s.marks hf.2) (by simp [h1,h2,h3,h1',h2',h3',h1s,h1t]) ?_;refine hC.go [] 60 ?_;simp [hsok]
    ·have h3':¬s.marks.length≤12:=(by omega);have:s.ok=false:=(by rw [hsok,decide_eq_false h3];simp);refine hC.go [] 60 ?_;simp [hlt,hlt',Sc.cells,h1,h2,h3,h1',h2',h3',h1s,h1t,this]
   ·have h2':¬s.kinds.length≤12:=(by omega);have:s.ok=false:=(by rw [hsok,decide_eq_false h2];simp);refine hC.go [] 60 ?_;simp [hlt,hlt',Sc.cells,h1,h2,h1',h2',h1s,h1t,this]
  ·have h1':¬1≤s.kinds.length:=(by omega);have h1s:¬0<(s.kinds.length:Int):=(by omega);have h1t:s.kinds.length=0:=(by omega);have:s.ok=false:=(by rw [hsok,decide_eq_false h1s];simp);refine hC.go [] 60 ?_;simp [hlt,hlt',Sc.cells,h1,h1',h1s,this]
end Go.Proofs.D
namespace Go.Proofs.D
open Go Go.Abs Go.RowKit
abbrev zeroK:List AV:=[vS ⟨#[]⟩,.pv (.val (.int .u8 0)),vS ⟨#[]⟩,.pv (.nilS 3),.pv (.nilS 2)]
set_option maxRecDepth 20000 in
set_option maxHeartbeats 4000000 in
theorem g53 (Gl:Granted)(k:Kd)(hk:k.content.cnt≤1000000)(ha:k.attrs.length≤1000000):Fun Tryz.prog Gl 30 [k.av] [] k.av []:=by
 refine fun_of (T:=T4) (n:=37) (rs:=[.cell 2 72]) Tryz.func30 (by kernel_rfl) rfl rfl rfl tok4 mixed (by simp) fun C hC=>?_;refine hC.go [] 60 ?_;simp [Kd.av,Kd.cells,E.cells];refine hC.drawn (by kernel_rfl) (by simp) ?_;refine hC.go [] 60 ?_;simp;refine hC.call [] (asE Gl k.content hk) (by simp [E.av,E.cells]) ?_;refine hC.go [] 60 ?_;simp [E.av,E.cells];refine go_loop (ι:={i:Nat // i≤k.attrs.length}) (fun x=>⟨[(1,.ptr (.loc 1) 0),(2,.ptr (.loc 2) 0),(3,.ptr (.loc 3) 0),(4,vI x.1)],[(.loc 1,some (.box 45 k.cells)),(.loc 2,some (.box 72 zeroK)),(.loc 3,some (.box 72 (vS k.name::(k.content.cells++[.own (.can 0)])))),(.can 0,some (.row 117 2 ((k.attrs.map Dc.pv).take x.1)))]⟩)
  (fun x=>k.attrs.length-x.1) ⟨0,by simp⟩ [(.can 0,.nil)] (by simp [Kd.cells,E.cells]) fun x ih=>?_
 obtain ⟨i,hi⟩:=x;simp only at hi ih;by_cases hlt:i<k.attrs.length
 ·have hw:=wr64 ((i:Int)+1) (by omega);have htk:=take_row Dc.pv hlt;refine hC.go [] 60 ?_;simp [Kd.cells,E.cells,hlt];refine hC.drawn (by kernel_rfl) (by simp) ?_;refine hC.go [] 60 ?_;simp [hlt];refine ⟨by omega,?_⟩;exact go_to [(.can 0,.nm (.loc 34))] (ih ⟨i+1,hlt⟩ (by simp;omega)) (by simp [hw,Kd.cells,E.cells,htk])
 ·have hlt':¬(i:Int)<k.attrs.length:=by omega
  have htk:(k.attrs.map Dc.pv).take i=k.attrs.map Dc.pv:=List.take_of_length_le (by simp;omega);rw [htk];refine hC.til [6] [] 60 ?_;simp [Kd.cells,E.cells,hlt];refine go_to (M:=⟨[(2,.ptr (.loc 2) 0),(3,.ptr (.loc 3) 0)],[(.loc 2,some (.box 72 zeroK)),(.loc 3,some (.box 72 k.cells))]⟩) [] (hC.go [] 60 ?_) (by simp [Kd.cells,E.cells]);simp [Kd.av,Kd.cells,E.cells]
set_option maxRecDepth 20000 in
set_option maxHeartbeats 4000000 in
theorem g18 (Gl:Granted)(s:Sc)(hk:∀k∈s.kinds,k.content.cnt≤1000000∧k.attrs.length≤1000000)(hl:s.kinds.length≤1000000):Fun Tryz.prog Gl 12 [s.av] [] s.av []:=by
 refine fun_of (T:=T4) (n:=27) (rs:=[.cell 2 32]) Tryz.func12 (by kernel_rfl) rfl rfl rfl tok4 mixed (by simp) fun C hC=>?_;refine hC.go [] 60 ?_;simp [Sc.av,Sc.cells];refine go_loop (ι:={i:Nat // i≤s.kinds.length}) (fun x=>⟨[(1,.ptr (.loc 1) 0),(2,.ptr (.loc 2) 0),(3,.ptr (.loc 3) 0),(4,vI x.1)],[(.loc 1,some (.box 25 s.cells)),(.loc 2,some (.box 32 [.pv (.nilS 5),.pv (.nilS 1)])),(.loc 3,some (.box 32 [.own (.can 0),.pv (strs s.marks)])),(.can 0,some (.row 72 5 ((s.kinds.map Kd.pv).take x.1)))]⟩)
  (fun x=>s.kinds.length-x.1) ⟨0,by simp⟩ [(.can 0,.nil)] (by simp [Sc.cells]) fun x ih=>?_
 obtain ⟨i,hi⟩:=x;simp only at hi ih;by_cases hlt:i<s.kinds.length
 ·have hw:=wr64 ((i:Int)+1) (by omega);have htk:=take_row Kd.pv hlt;obtain ⟨k,hkk⟩:∃k,s.kinds[i]=k:=⟨_,rfl⟩;obtain ⟨q1,q2⟩:=hk k (by rw [←hkk];simp);rw [hkk] at htk;refine hC.go [] 60 ?_;simp [Sc.cells,hlt];refine hC.drawn (by kernel_rfl) (by simp) ?_;refine hC.go [] 60 ?_;simp [hlt,hkk,Kd.pv_eq,E.pv_eq];refine hC.call [] (g53 Gl k q1 q2) (by simp [Kd.av,Kd.cells,E.cells]) ?_;refine hC.go [] 60 ?_;simp [Kd.av,Kd.cells,E.cells];refine ⟨by omega,?_⟩;exact go_to [(.can 0,.nm (.loc 24))] (ih ⟨i+1,hlt⟩ (by simp;omega)) (by simp [hw,Sc.cells,htk,Kd.pv_eq,E.pv_eq])
 ·have hlt':¬(i:Int)<s.kinds.length:=by omega
  have htk:(s.kinds.map Kd.pv).take i=s.kinds.map Kd.pv:=List.take_of_length_le (by simp;omega);rw [htk];refine hC.til [6] [] 60 ?_;simp [Sc.cells,hlt];refine go_to (M:=⟨[(2,.ptr (.loc 2) 0),(3,.ptr (.loc 3) 0)],[(.loc 2,some (.box 32 [.pv (.nilS 5),.pv (.nilS 1)])),(.loc 3,some (.box 32 s.cells))]⟩) [] (hC.go [] 60 ?_) (by simp [Sc.cells]);simp [Sc.av,Sc.cells]
set_option maxRecDepth 20000 in
set_option maxHeartbeats 4000000 in
theorem g17 (Gl:Granted)(s:Sc)(hw:s.wide):Fun Tryz.prog Gl 9 [s.av] [] (vB s.lite) []:=by
 have hM:M47=140737488355328:=rfl;obtain ⟨w1,w2,w3,w4⟩:=hw;have hli:s.lite=(decide (0<kindsGo s.kinds 600)&&(decide ((s.kinds.length:Int)<40)&&decide ((s.marks.length:Int)<40))):=rfl;refine fun_of (T:=T4) (n:=84) (rs:=[.tmp 2]) Tryz.func9 (by kernel_rfl) rfl rfl rfl tok4 mixed (by simp) fun C hC=>?_;refine hC.go [] 60 ?_;simp [Sc.av,Sc.cells];refine go_loop (ι:={x:Nat × Int // x.1≤s.kinds.length∧kindsGo s.kinds 600=kindsGo (s.kinds.drop x.1) x.2}) (fun x=>⟨[(1,.ptr (.loc 1) 0),(3,vI x.1.2),(4,vI x.1.1)],[(.loc 1,some (.box 25 s.cells))]⟩)
  (fun x=>s.kinds.length-x.1.1) ⟨(0,600),by simp⟩ [] (by simp [Sc.cells]) fun x ih=>?_
 obtain ⟨⟨i,left⟩,hi,hn⟩:=x;simp only at hi hn ih;have fin:kindsGo s.kinds 600=left→∀L':Int,L'=left→s.lite=(decide (0<left)&&(decide ((s.kinds.length:Int)<40)&&decide ((s.marks.length:Int)<40))):=fun h _ _=>by rw [hli,h]
 by_cases hlt:i<s.kinds.length
 ·have hw1:=wr64 ((i:Int)+1) (by omega);obtain ⟨k,hkk⟩:∃k,s.kinds[i]=k:=⟨_,rfl⟩;rw [List.drop_eq_getElem_cons hlt,hkk] at hn;simp only [kindsGo] at hn;by_cases h0:0<left
  ·rw [if_pos h0] at hn;obtain ⟨l0,hl0⟩:∃l0,wr .i64 (wr .i64 (k.content.light left-k.attrs.length)-wr .i64 ((k.name.size:Int)/20))=l0:=⟨_,rfl⟩;have hkg:kindGo k left=valsGo k.attrs l0:=(by unfold kindGo;rw [hl0]);rw [hkg] at hn;obtain ⟨f1,f2,f3,f4⟩:=w1 k (by rw [←hkk];simp);refine hC.go [] 60 ?_;simp [Sc.cells,hlt,h0];refine hC.drawn (by kernel_rfl) (by simp) ?_;refine hC.go [] 60 ?_;simp [hlt,hkk,Kd.pv_eq,E.pv_eq];refine hC.call [] (f16 Gl k.content left) (by simp [E.av,E.cells]) ?_;refine hC.go [] 60 ?_;simp [hlt,hkk,Kd.pv_eq,E.pv_eq,hl0];refine go_loop (ι:={x:Nat × Int // x.1≤k.attrs.length∧valsGo k.attrs l0=valsGo (k.attrs.drop x.1) x.2}) (fun x=>⟨[(1,.ptr (.loc 1) 0),(3,vI x.1.2),(4,vI i),(5,vI x.1.1)],[(.loc 1,some (.box 25 s.cells))]⟩)
    (fun x=>k.attrs.length-x.1.1) ⟨(0,l0),by simp⟩ [] (by simp [Sc.cells]) fun x ih2=>?_
   obtain ⟨⟨j,l1⟩,hj,hn2⟩:=x;simp only at hj hn2 ih2;by_cases hlj:j<k.attrs.length
   ·have hw2:=wr64 ((j:Int)+1) (by omega);rw [List.drop_eq_getElem_cons hlj] at hn2;simp only [valsGo] at hn2;by_cases h1:0<l1
    ·rw [if_pos h1] at hn2;refine hC.go [] 60 ?_;simp [Sc.cells,hlt,hkk,Kd.pv_eq,E.pv_eq,hlj,h1];exact go_to [] (ih2 ⟨(j+1,_),hlj,hn2⟩ (by simp;omega)) (by simp [hw2,Sc.cells])
    ·rw [if_neg h1] at hn2;refine hC.go [] 60 ?_;simp [Sc.cells,hlt,hkk,Kd.pv_eq,E.pv_eq,hlj,h1];exact go_to [] (ih ⟨(i+1,l1),hlt,by rw [hn,hn2]⟩ (by simp;omega)) (by simp [hw1,Sc.cells])
   ·rw [List.drop_eq_nil_of_le (by omega)] at hn2;simp only [valsGo] at hn2;have hlj':¬(j:Int)<k.attrs.length:=(by omega);refine hC.go [] 60 ?_;simp [Sc.cells,hlt,hkk,Kd.pv_eq,E.pv_eq,hlj];exact go_to [] (ih ⟨(i+1,l1),hlt,by rw [hn,hn2]⟩ (by simp;omega)) (by simp [hw1,Sc.cells])
  ·rw [if_neg h0] at hn;have hf:=fin hn left rfl;rw [decide_eq_false h0,Bool.false_and] at hf;refine hC.go [] 60 ?_;simp [Sc.cells,hlt,h0,hf]
 ·rw [List.drop_eq_nil_of_le (by omega)] at hn;simp only [kindsGo] at hn;have hf:=fin hn left rfl;have hlt':¬(i:Int)<s.kinds.length:=by omega
  by_cases h0:0<left
  ·by_cases h1:(s.kinds.length:Int)<40
   ·have h1':s.kinds.length<40:=(by omega);rw [decide_eq_true h0,decide_eq_true h1,Bool.true_and,Bool.true_and] at hf;refine hC.go [] 60 ?_;simp [Sc.cells,hlt,h0,h1,h1',hf]
   ·have h1':¬s.kinds.length<40:=(by omega);rw [decide_eq_false h1] at hf;simp only [Bool.false_and,Bool.and_false] at hf;refine hC.go [] 60 ?_;simp [Sc.cells,hlt,h0,h1,h1',hf]
  ·rw [decide_eq_false h0,Bool.false_and] at hf;refine hC.go [] 60 ?_;simp [Sc.cells,hlt,h0,hf]
theorem find_cases (s:Sc)(name:ByteArray):(s.place name<0∧s.find name=(k0,false))∨(¬s.place name<0∧∃k:Kd,s.find name=(k,true)∧k.name=name∧k∈s.kinds):=by
 rcases firstAt_lt (isKind name) s.kinds 0 with h|⟨j,h1,h2,h3⟩
 ·left;have h':s.place name<0:=h;exact ⟨h',by unfold Sc.find;rw [if_pos h']⟩
 ·right;have hp:s.place name=(j:Int):=by unfold Sc.place;rw [h1];simp
  refine ⟨by omega,s.kinds[j],?_,by simpa [isKind] using h3,by simp⟩;unfold Sc.find;rw [if_neg (by omega),hp];simp [h2]
end Go.Proofs.D
