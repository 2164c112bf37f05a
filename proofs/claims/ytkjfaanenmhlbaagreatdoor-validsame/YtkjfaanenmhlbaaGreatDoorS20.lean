/-
  SCHEMAS: the kind of a line.
-/
import Derived.Test.YtkjfaanenmhlbaaGreatDoorZ4
import Derived.Test.YtkjfaanenmhlbaaGreatDoorR7
import Derived.Test.YtkjfaanenmhlbaaGreatDoorS8
import Derived.Test.YtkjfaanenmhlbaaGreatDoorL6
import Derived.Test.YtkjfaanenmhlbaaGreatDoorG12
import Derived.Test.YtkjfaanenmhlbaaGreatDoorG15
import Derived.Test.YtkjfaanenmhlbaaGreatDoorD36
set_option linter.unusedVariables false
set_option linter.unusedSimpArgs false
namespace Go.Proofs.D
open Go Go.Abs Go.RowKit
theorem splitC_len (c:UInt8):∀(l:Bs),∀x∈splitC c l,x.length≤l.length
 |[],x,hx=>by simp [splitC] at hx;simp [hx]
 |b::l,x,hx=>by
  have ih:=splitC_len c l;unfold splitC at hx;split at hx
  ·rcases List.mem_cons.1 hx with rfl|hx
   ·simp
   ·have:=ih x hx;simp;omega
  ·split at hx
   ·simp at hx;simp [hx]
   ·rename_i y r hs;rw [hs] at ih;rcases List.mem_cons.1 hx with rfl|hx
    ·have:=ih y (by simp);simp;omega
    ·have:=ih x (by simp [hx]);simp;omega
theorem splitC_many (c:UInt8):∀(l:Bs),(splitC c l).length≤l.length+1
 |[]=>by simp [splitC]
 |b::l=>by
  have ih:=splitC_many c l;unfold splitC;split
  ·simp;omega
  ·split
   ·simp
   ·rename_i y r hs;rw [hs] at ih;simp at ih ⊢;omega
theorem cutT_len (s p:Bs):(cutT s p).1.length≤s.length∧(cutT s p).2.1.length≤s.length:=by
 unfold cutT Lib.cut;split
 ·simp;omega
 ·simp
def declOf (w:Bs):Dc:=⟨bs (cutT w [61]).1,if (cutT w [61]).2.1 = [42] then [] else (splitC 124 (cutT w [61]).2.1).map bs⟩
def declsFrom:List Dc→List Bs→Option (List Dc)
 |acc,[]=>some acc
 |acc,w::r=>if (cutT w [61]).2.2=true then declsFrom (acc++[declOf w]) r else none
def kindR (line:Bs):Kd × Bool:=
 if (cutT line [58,32]).2.2=true then
  match declsFrom [] (splitC 32 (cutT line [58,32]).1).tail with
  |none=>(k0,false)
  |some ds=>(⟨bs ((splitC 32 (cutT line [58,32]).1).headD []),(parse (bs (cutT line [58,32]).2.1)).1,ds⟩,decide ((parse (bs (cutT line [58,32]).2.1)).2=0))
 else (k0,false)
theorem g63 (s:Bs)(c:UInt8)(hs:s.length<4294967281):Fun Tryz.prog tabs 70 [vS (bs s),vS ⟨#[c]⟩] [] (.pv (strs ((afterL c s).map bs))) []:=by
 refine fun_of (T:=T4) (n:=10) (rs:=[.tmp 4]) Tryz.func70 (by kernel_rfl) rfl rfl rfl tok4 mixed (by simp) fun C hC=>?_;have g1:(⟨#[c]⟩:ByteArray).size=1:=rfl;refine hC.vc [] 60 ?_;simp [g1];refine hC.call [] (g108 s c hs) (by simp) ?_;refine hC.vc [] 60 ?_;simp
set_option maxRecDepth 20000 in
set_option maxHeartbeats 2000000 in
theorem g65 (line:Bs)(hl:line.length≤100000):Fun Tryz.prog tabs 73 [vS (bs line)] [] (.tup [(kindR line).1.av,vB (kindR line).2]) []:=by
 have hk:kindR line=if (cutT line [58,32]).2.2=true then
  match declsFrom [] (splitC 32 (cutT line [58,32]).1).tail with
  |none=>(k0,false)
  |some ds=>(⟨bs ((splitC 32 (cutT line [58,32]).1).headD []),(parse (bs (cutT line [58,32]).2.1)).1,ds⟩,decide ((parse (bs (cutT line [58,32]).2.1)).2=0))
  else (k0,false):=rfl
 obtain ⟨hc1,hc2⟩:=cutT_len line [58,32];have hcall:=g110 line [58,32] (by omega);obtain ⟨⟨front,content,okc⟩,hcut⟩:∃x,cutT line [58,32]=x:=⟨_,rfl⟩;rw [hcut] at hk hcall hc1 hc2;simp only at hk hcall hc1 hc2;have hb2:bs [58,32]=⟨#[58,32]⟩:=rfl;have hb1:bs [61]=⟨#[61]⟩:=rfl;rw [hb2] at hcall;refine fun_of (T:=T4) (n:=71) (rs:=[.cell 2 66,.tmp 3]) Tryz.func73 (by kernel_rfl) rfl rfl rfl tok4 mixed (by simp) fun C hC=>?_;refine hC.vc [] 60 ?_;simp;refine hC.call [] hcall (by simp) ?_;cases okc with
 |false=>
  rw [if_neg (by simp)] at hk;rw [hk] at hC;refine hC.vc [] 60 ?_;simp [k0,Kd.av,Kd.cells,E.cells,E.op,E.name,E.kids]
 |true=>
  rw [if_pos rfl] at hk;refine hC.vc [] 60 ?_;simp;refine hC.call [] (g111 front 32 (by omega)) (by simp) ?_;have hpl:=splitC_len 32 front;have hpm:=splitC_many 32 front;obtain ⟨w0,ws,hws⟩:∃w0 ws,splitC 32 front=w0::ws:=by
   match h:splitC 32 front with
   |[]=>exact absurd h (splitC_ne 32 front)
   |a::b=>exact ⟨a,b,rfl⟩
  rw [hws] at hk hpl hpm ⊢;simp only [List.tail_cons,List.headD_cons] at hk;refine hC.vc [] 60 ?_;simp;refine hC.call [] (f13 tabs (bs content) (by rw [bs_size];omega)) (by simp [E.av,E.cells]) ?_;obtain ⟨⟨e,er⟩,hpe⟩:∃x,parse (bs content)=x:=⟨_,rfl⟩;rw [hpe] at hk ⊢;simp only at hk ⊢;refine hC.vc [] 60 ?_;simp [E.av,E.cells];refine ⟨by omega,?_⟩;have htake:List.take ws.length (List.map ((fun s=>[PV.val (Value.string s)]) ∘ bs) ws)=ws.map ((fun s=>[PV.val (Value.string s)]) ∘ bs):=List.take_of_length_le (by simp);rw [htake];have hwl0:ws.length≤100000:=by
   have:=hpm;simp only [List.length_cons] at this;omega
  refine go_loop (ι:={x:Nat × List Dc // x.1≤ws.length∧x.2.length=x.1∧declsFrom [] ws=declsFrom x.2 (ws.drop x.1)}) (fun x=>⟨[(2,.ptr (.loc 2) 0),(9,vI er),(10,.ptr (.loc 10) 0),(39,.pv (strs (ws.map bs))),(40,vI ws.length),(41,vI x.1.1)],
   [(.loc 2,some (.box 66 [vS ⟨#[]⟩,.pv (.val (.int .u8 0)),vS ⟨#[]⟩,.pv (.nilS 3),.pv (.nilS 2)])),(.loc 10,some (.box 66 [vS (bs w0),.pv (.val (.int .u8 e.op)),vS e.name,.pv (.ro 3 (e.kids.map E.pv)),.own (.can 0)])),(.can 0,some (.row 70 2 (x.1.2.map Dc.pv)))]⟩)
   (fun x=>ws.length-x.1.1) ⟨(0,[]),by simp⟩ [(.can 0,.nil)] (by simp) fun x ih=>?_
  obtain ⟨⟨i,ds⟩,hi,hdl,hn⟩:=x;simp only at hi hdl hn ih;refine hC.vc [] 60 ?_;by_cases hlt:i<ws.length
  ·have hw1:=wr64 ((i:Int)+1) (by omega);rw [List.drop_eq_getElem_cons hlt] at hn;simp only [declsFrom] at hn;obtain ⟨w,hw⟩:∃w,ws[i]=w:=⟨_,rfl⟩;have hwl:w.length≤front.length:=hpl w (by rw [←hw];simp);rw [hw] at hn;obtain ⟨hd1,hd2⟩:=cutT_len w [61];have hcall2:=g110 w [61] (by omega);have hdo:declOf w=⟨bs (cutT w [61]).1,if (cutT w [61]).2.1 = [42] then [] else (splitC 124 (cutT w [61]).2.1).map bs⟩:=rfl;obtain ⟨⟨nm,vals,okw⟩,hcut2⟩:∃x,cutT w [61]=x:=⟨_,rfl⟩;rw [hcut2] at hn hcall2 hd1 hd2 hdo;simp only at hn hcall2 hd1 hd2 hdo;rw [hb1] at hcall2;simp [hlt,hw];refine hC.call [] hcall2 (by simp) ?_;cases okw with
   |false=>
    rw [if_neg (by simp)] at hn;rw [hn] at hk;simp only at hk;rw [hk] at hC;refine hC.vc [] 60 ?_;simp [k0,Kd.av,Kd.cells,E.cells,E.op,E.name,E.kids]
   |true=>
    rw [if_pos rfl] at hn;by_cases hv:vals = [42]
    ·rw [if_pos hv] at hdo;have hvb:bs vals=⟨#[42]⟩:=(by rw [hv];rfl);rw [hvb];refine hC.vc [] 60 ?_;simp;refine ⟨by omega,?_⟩;exact go_to [(.can 0,.nm (.loc 65))] (ih ⟨(i+1,ds++[declOf w]),hlt,by simp [hdl],hn⟩ (by simp;omega)) (by simp [hw1,hdo])
    ·rw [if_neg hv] at hdo;have hvb:¬bs vals=⟨#[42]⟩:=fun h=>hv (by rw [←bs_list vals,h]);refine hC.vc [] 60 ?_;simp [hvb];refine hC.call [] (g111 vals 124 (by omega)) (by simp) ?_;refine hC.vc [] 60 ?_;simp;refine ⟨by omega,?_⟩;exact go_to [(.can 0,.nm (.loc 65))] (ih ⟨(i+1,ds++[declOf w]),hlt,by simp [hdl],hn⟩ (by simp;omega)) (by simp [hw1,hdo])
  ·rw [List.drop_eq_nil_of_le (by omega)] at hn;simp only [declsFrom] at hn;rw [hn] at hk;simp only at hk;rw [hk] at hC;simp [hlt,Kd.av,Kd.cells,E.cells,hk]
theorem sepTail_by (c:UInt8)(y:Bs)(r:List Bs):sepTail c (y::r)=c::sepBy c (y::r):=by
 simp [sepTail,sepBy]
theorem join_split (c:UInt8):∀l:Bs,sepBy c (splitC c l)=l
 |[]=>by simp [splitC,sepBy,sepTail]
 |x::l=>by
  have ih:=join_split c l;have hne:=splitC_ne c l;unfold splitC
  match hs:splitC c l with
  |[]=>exact absurd hs hne
  |y::r=>
   rw [hs] at ih;by_cases h:x=c
   ·rw [if_pos h];show []++sepTail c (y::r)=_;rw [sepTail_by,ih,h];rfl
   ·rw [if_neg h];show x::y++sepTail c r=_;have:y++sepTail c r=l:=ih;rw [List.cons_append,this]
theorem joinV_bs (l:List Bs):joinV (l.map bs)=sepBy 124 l:=by
 unfold joinV;rw [List.map_map];congr 1;exact (List.map_congr_left fun x _=>bs_list x).trans (List.map_id l)
theorem bsize (l:Bs):(bs l).size=l.length:=rfl
theorem declsFrom_all {P:Dc→Prop}:∀(ws:List Bs) (acc ds:List Dc),declsFrom acc ws=some ds→(∀d∈acc,P d)→(∀w∈ws,P (declOf w))→(∀d∈ds,P d)∧ds.length=acc.length+ws.length
 |[],acc,ds,h,ha,hw=>by
  simp only [declsFrom,Option.some.injEq] at h;subst h;exact ⟨ha,by simp⟩
 |w::ws,acc,ds,h,ha,hw=>by
  simp only [declsFrom] at h;split at h
  ·obtain ⟨h1,h2⟩:=declsFrom_all ws _ ds h (fun d hd=>by
    rcases List.mem_append.1 hd with hd|hd
    ·exact ha d hd
    ·simp at hd;rw [hd];exact hw w (by simp)) (fun x hx=>hw x (by simp [hx]))
   exact ⟨h1,by rw [h2];simp;omega⟩
  ·cases h
theorem flat_bound {α:Type}(f:α→Bs)(B:Nat):∀l:List α,(∀x∈l,(f x).length≤B)→(l.flatMap f).length≤l.length*B
 |[],_=>by simp
 |x::l,h=>by
  have h1:=h x (by simp);have h2:=flat_bound f B l fun y hy=>h y (by simp [hy]);simp only [List.flatMap_cons,List.length_append,List.length_cons,Nat.add_mul,Nat.one_mul];omega
theorem declB_lin (w:Bs):(declB (declOf w)).length≤3*(w.length+1):=by
 obtain ⟨h1,h2⟩:=cutT_len w [61];have hv:(valsB (declOf w).vals).length≤w.length+1:=by
  unfold valsB;split
  ·simp
  ·simp only [declOf];split
   ·simp [joinV,sepBy]
   ·rw [joinV_bs,join_split];omega
 have hn:(declOf w).name.data.toList.length≤w.length:=by simp only [declOf];rw [bs_list];omega
 simp only [declB,List.length_append,List.length_cons];omega
theorem tail_lin:∀l:List Bs,((l.map declOf).flatMap declB).length≤3*(sepTail 32 l).length
 |[]=>by simp
 |x::l=>by
  have h1:=declB_lin x;have h2:=tail_lin l;have e:(sepTail 32 (x::l)).length=x.length+1+(sepTail 32 l).length:=by
   simp only [sepTail,List.flatMap_cons,List.length_append,List.length_cons]
  rw [List.map_cons,List.flatMap_cons,List.length_append,e];omega
theorem declsFrom_eq:∀(ws:List Bs) (acc ds:List Dc),declsFrom acc ws=some ds→ds=acc++ws.map declOf
 |[],acc,ds,h=>by
  simp only [declsFrom,Option.some.injEq] at h;simp [h]
 |w::ws,acc,ds,h=>by
  simp only [declsFrom] at h;split at h
  ·rw [declsFrom_eq ws _ ds h];simp
  ·cases h
theorem declOf_fit (w:Bs)(hw:w.length≤1000000):(declOf w).fit:=by
 obtain ⟨h1,h2⟩:=cutT_len w [61];have hM:M47=140737488355328:=rfl;refine ⟨by simp only [declOf,bsize];omega,fun v hv=>?_⟩;simp only [declOf] at hv;split at hv
 ·cases hv
 ·obtain ⟨x,hx,rfl⟩:=List.mem_map.1 hv;have:=splitC_len 124 _ x hx;rw [bsize];omega
theorem kindR_wide (line:Bs)(hl:line.length≤100000)(hk:(kindR line).2=true):(kindR line).1.fit∧(lineK (kindR line).1).length≤9000000:=by
 have hM:M47=140737488355328:=rfl;obtain ⟨hc1,hc2⟩:=cutT_len line [58,32];unfold kindR at hk ⊢;by_cases hc:(cutT line [58,32]).2.2=true
 ·rw [if_pos hc] at hk ⊢;have hsl:=splitC_len 32 (cutT line [58,32]).1;have hsm:=splitC_many 32 (cutT line [58,32]).1;have hjs:=join_split 32 (cutT line [58,32]).1;cases hd:declsFrom [] (splitC 32 (cutT line [58,32]).1).tail with
  |none=>rw [hd] at hk;simp at hk
  |some ds=>
   simp only [hd,decide_eq_true_eq] at hk;simp only;have htl:∀w∈(splitC 32 (cutT line [58,32]).1).tail,w.length≤1000000:=fun w hw=>by
    have:=hsl w (List.mem_of_mem_tail hw);omega
   obtain ⟨h1,h2⟩:=declsFrom_all (P:=Dc.fit) _ _ _ hd (fun d h=>by cases h) (fun w hw=>declOf_fit w (htl w hw));have hde:=declsFrom_eq _ _ _ hd;have hdn:ds.length≤100001:=by
    rw [h2,List.length_tail];simp;omega
   have hfl:(ds.flatMap declB).length≤3*line.length:=by
    rw [hde,List.nil_append];have h3:=tail_lin (splitC 32 (cutT line [58,32]).1).tail;have h4:(sepTail 32 (splitC 32 (cutT line [58,32]).1).tail).length≤(cutT line [58,32]).1.length:=by
     match hs:splitC 32 (cutT line [58,32]).1 with
     |[]=>simp [sepTail]
     |a::b=>
      rw [hs] at hjs;have:=congrArg List.length hjs;simp only [sepBy,List.length_append] at this;simp only [List.tail_cons];omega
    omega
   have hhd:((splitC 32 (cutT line [58,32]).1).headD []).length≤100000:=by
    match hs:splitC 32 (cutT line [58,32]).1 with
    |[]=>simp
    |a::b=>
     rw [hs] at hsl;have:=hsl a (by simp);simp;omega
   obtain ⟨p1,p2⟩:=parse_small (bs (cutT line [58,32]).2.1) (by rw [bsize];omega);have hcb:(parse (bs (cutT line [58,32]).2.1)).1.bytes.length≤100000:=by
    rcases parse_sound (bs (cutT line [58,32]).2.1) with h|⟨_,h3,h4⟩
    ·rw [h] at hk;simp at hk
    ·unfold E.bytes E.print;rw [if_pos h3,h4,bs_list];omega
   refine ⟨⟨by simp only [bsize];omega,p1,by simp only;omega,by simp only;omega,fun d hd=>h1 d hd⟩,?_⟩;simp only [lineK,headB,nodeS,List.length_append,List.length_cons,List.length_nil,bs_list];omega
 ·rw [if_neg hc] at hk;cases hk
def preB (p l:Bs):Bool:=decide (l.take p.length=p)
theorem preB_iff {p l:Bs}:preB p l=true↔∃r,l=p++r:=by
 simp only [preB,decide_eq_true_eq];constructor
 ·intro h;exact ⟨l.drop p.length,by conv=>lhs;rw [←List.take_append_drop p.length l,h]⟩
 ·rintro ⟨r,rfl⟩;simp
theorem pre_eq (p l:Bs):hasPre (bs l) (bs p)=preB p l:=by
 rw [Bool.eq_iff_iff,preB_iff];exact hp_iff l p
theorem cut_eq {p l:Bs}(h:preB p l=true):cutPre (bs l) (bs p)=bs (l.drop p.length):=by
 obtain ⟨r,rfl⟩:=preB_iff.1 h;rw [List.drop_left];exact cp_yes p r
theorem cut_not {p l:Bs}(h:preB p l=false):cutPre (bs l) (bs p)=bs l:=cp_no (by rw [pre_eq,h])
def marksF (l:Bs)(ms:List ByteArray):List ByteArray:=if preB markS l=true then ms++[bs (l.drop 5)] else ms
def linesFrom:List Kd→List ByteArray→List Bs→Option (List Kd × List ByteArray)
 |ks,ms,[]=>some (ks,ms)
 |ks,ms,l::r=>
  if preB nodeS l=true∧(ks.length:Int)≤12 then
   if (kindR (l.drop 5)).2=true then linesFrom (ks++[(kindR (l.drop 5)).1]) (marksF l ms) r else none
  else linesFrom ks (marksF l ms) r
def s0:Sc:=⟨[],[]⟩
def sparse (t:Bs):Sc × Int:=match linesFrom [] [] (splitC 10 t) with
 |none=>(s0,2)
 |some (ks,ms)=>if (Sc.mk ks ms).print.2=0∧(Sc.mk ks ms).print.1=bs t then (⟨ks,ms⟩,0) else (s0,2)
theorem node_mark {l:Bs}(h:preB nodeS l=true):preB markS l=false:=by
 obtain ⟨r,rfl⟩:=preB_iff.1 h;simp [preB,nodeS,markS]
theorem splitK_len (sep:Bs)(sv:Nat):∀(k:Nat) (l:Bs),∀x∈Lib.splitK sep sv k l,x.length≤l.length
 |0,l,x,hx=>by simp [Lib.splitK] at hx;rw [hx];exact Nat.le_refl _
 |k+1,l,x,hx=>by
  unfold Lib.splitK at hx;split at hx
  ·simp at hx;rw [hx];exact Nat.le_refl _
  ·rcases List.mem_cons.1 hx with rfl|hx
   ·simp;omega
   ·have:=splitK_len sep sv k _ x hx;rw [List.length_drop] at this;omega
set_option maxRecDepth 20000 in
set_option maxHeartbeats 4000000 in
theorem g29w (t:Bs)(ht:t.length≤1000000)(hlines:∀l∈splitC 10 t,l.length≤100000):Fun Tryz.prog tabs 36 [vS (bs t)] [] (.tup [(sparse t).1.av,vI (sparse t).2]) []:=by
 have hsp:sparse t=match linesFrom [] [] (splitC 10 t) with
  |none=>(s0,2)
  |some (ks,ms)=>if (Sc.mk ks ms).print.2=0∧(Sc.mk ks ms).print.1=bs t then (⟨ks,ms⟩,0) else (s0,2):=rfl
 have hM:M47=140737488355328:=rfl;have hLl:=splitC_len 10 t;have hLm:=splitC_many 10 t;have hA:=after_trim 10 t;have hAl:∀x∈afterL 10 t,x.length≤t.length:=splitK_len [10] 1 _ t;have hcallA:=g63 t 10 (by omega);generalize splitC 10 t=L at hsp hLl hLm hA hlines;generalize afterL 10 t=A at hA hAl hcallA;have hAL:A.length=L.length:=by rw [←hA];simp
 have hnp:bs nodeS=⟨#[110,111,100,101,32]⟩:=rfl;have hmp:bs markS=⟨#[109,97,114,107,32]⟩:=rfl;refine fun_of (T:=T4) (n:=77) (rs:=[.cell 2 25,.tmp 3]) Tryz.func36 (by kernel_rfl) rfl rfl rfl tok4 mixed (by simp) fun C hC=>?_;refine hC.vc [] 60 ?_;simp;refine hC.call [] hcallA (by simp) ?_;refine hC.vc [] 60 ?_;simp;refine go_loop (ι:={x:Nat × List Kd × List ByteArray // x.1≤L.length∧linesFrom [] [] L=linesFrom x.2.1 x.2.2 (L.drop x.1)∧x.2.1.length≤13∧(∀k∈x.2.1,k.fit∧(lineK k).length≤9000000)∧x.2.2.length≤x.1∧∀m∈x.2.2,m.size≤100000})
  (fun x=>⟨[(0,vS (bs t)),(2,.ptr (.loc 2) 0),(4,.ptr (.loc 4) 0),(16,.pv (strs (A.map bs))),(17,vI L.length),(18,vI x.1.1)],
    [(.loc 2,some (.box 25 [.pv (.nilS 5),.pv (.nilS 1)])),(.loc 4,some (.box 25 [.own (.can 0),.own (.can 1)])),(.can 0,some (.row 66 5 (x.1.2.1.map Kd.pv))),(.can 1,some (.row 9 1 (x.1.2.2.map fun s=>[.val (.string s)])))]⟩)
  (fun x=>L.length-x.1.1) ⟨(0,[],[]),by simp⟩ [(.can 0,.nil),(.can 1,.nil)] (by simp [hAL]) fun x ih=>?_
 obtain ⟨⟨i,ks,ms⟩,hi,hn,hkl,hkf,hml,hmf⟩:=x;simp only at hi hn hkl hkf hml hmf ih;by_cases hlt:i<L.length
 ·refine hC.vc [] 60 ?_;have hltA:i<A.length:=by omega
  have hw1:=wr64 ((i:Int)+1) (by omega);rw [List.drop_eq_getElem_cons hlt] at hn;simp only [linesFrom] at hn;have hAi:Lib.trimSuffix A[i] [10]=L[i]:=by
   have:(A.map fun x=>Lib.trimSuffix x [10])[i]?=L[i]?:=(by rw [hA]);rw [List.getElem?_map,List.getElem?_eq_getElem hltA,List.getElem?_eq_getElem hlt] at this;simpa using this
  have hAil:=hAl A[i] (by simp);obtain ⟨l,hl⟩:∃l,L[i]=l:=⟨_,rfl⟩;have hll:l.length≤t.length:=hLl l (by rw [←hl];simp);have hll2:l.length≤100000:=hlines l (by rw [←hl];simp);have hdl:(l.drop 5).length≤100000:=by rw [List.length_drop];omega
  rw [hl] at hn hAi;have hcallT:=g64 tabs A[i] 10 (by omega);rw [hAi] at hcallT;obtain ⟨ai,hai⟩:∃ai,A[i]=ai:=⟨_,rfl⟩;rw [hai] at hcallT;have hcn:=f50 tabs (bs l) (bs nodeS);have hcm:=f50 tabs (bs l) (bs markS);rw [pre_eq,hnp] at hcn;rw [pre_eq,hmp] at hcm;rw [←hnp] at hcn;rw [←hmp] at hcm;have hMk:∀b:Bool,preB markS l=b→marksF l ms=if b=true then ms++[bs (l.drop 5)] else ms:=fun b hb=>by rw [marksF,hb]
  simp [hlt,hltA,hai];refine hC.call [] hcallT (by simp) ?_;refine hC.vc [] 60 ?_;simp;have fin:∀(ks':List Kd),linesFrom [] [] L=linesFrom ks' (marksF l ms) (L.drop (i+1))→ks'.length≤13→(∀k∈ks',k.fit∧(lineK k).length≤9000000)→
   ∃y:{x:Nat × List Kd × List ByteArray // x.1≤L.length∧linesFrom [] [] L=linesFrom x.2.1 x.2.2 (L.drop x.1)∧x.2.1.length≤13∧(∀k∈x.2.1,k.fit∧(lineK k).length≤9000000)∧x.2.2.length≤x.1∧∀m∈x.2.2,m.size≤100000},y.1=(i+1,ks',marksF l ms):=fun ks' h1 h2 h3=>by
   refine ⟨⟨(i+1,ks',marksF l ms),hlt,h1,h2,h3,?_,?_⟩,rfl⟩
   ·simp only [marksF];split
    ·simp;exact hml
    ·omega
   ·intro m hm;simp only [marksF] at hm;split at hm
    ·rcases List.mem_append.1 hm with hm|hm
     ·exact hmf m hm
     ·simp at hm;rw [hm,bsize];exact hdl
    ·exact hmf m hm
  cases hnode:preB nodeS l with
  |false=>
   rw [if_neg (by simp [hnode])] at hn;rw [hnode,cut_not hnode,hnp] at hcn;refine hC.call [] hcn (by simp) ?_;refine hC.vc [] 60 ?_;simp;obtain ⟨y,hy⟩:=fin ks hn hkl hkf;have ihy:=ih y (by rw [hy];simp;omega);rw [hy] at ihy;cases hmark:preB markS l with
   |false=>
    rw [hMk _ hmark,if_neg (by simp)] at ihy;rw [hmark,cut_not hmark,hmp] at hcm;refine hC.call [] hcm (by simp) ?_;refine hC.vc [] 60 ?_;simp;exact go_to [] ihy (by simp [hw1])
   |true=>
    rw [hMk _ hmark,if_pos rfl] at ihy;rw [hmark,cut_eq hmark,hmp] at hcm;refine hC.call [] hcm (by simp) ?_;refine hC.vc [] 60 ?_;simp;refine ⟨by omega,?_⟩;exact go_to [(.can 1,.nm (.loc 60))] ihy (by simp [hw1,markS])
  |true=>
   have hmark:=node_mark hnode;rw [hnode,cut_eq hnode,hnp] at hcn;rw [hmark,cut_not hmark,hmp] at hcm;have hd5:l.drop nodeS.length=l.drop 5:=rfl;rw [hd5] at hcn;refine hC.call [] hcn (by simp) ?_;by_cases h12:(ks.length:Int)≤12
   ·rw [if_pos ⟨hnode,h12⟩] at hn;have hck:=g65 (l.drop 5) (by omega);have hks:=kindR_wide (l.drop 5) hdl;generalize kindR (l.drop 5)=kr at hn hck hks;obtain ⟨k,okk⟩:=kr;simp only at hn hck hks;refine hC.vc [] 60 ?_;simp [h12];refine hC.call [] hck (by simp [Kd.av,Kd.cells,E.cells]) ?_;cases okk with
    |false=>
     rw [if_neg (by simp)] at hn;rw [hn] at hsp;simp only at hsp;rw [hsp] at hC;refine hC.vc [] 60 ?_;simp [Kd.av,Kd.cells,E.cells,s0,Sc.av,Sc.cells]
    |true=>
     rw [if_pos rfl] at hn;obtain ⟨y,hy⟩:=fin (ks++[k]) hn (by simp;omega) (fun x hx=>by
      rcases List.mem_append.1 hx with hx|hx
      ·exact hkf x hx
      ·simp at hx;rw [hx];exact hks rfl)
     have ihy:=ih y (by rw [hy];simp;omega);rw [hy,hMk _ hmark,if_neg (by simp)] at ihy;refine hC.vc [] 60 ?_;simp [Kd.av,Kd.cells,E.cells];refine ⟨by omega,?_⟩;refine hC.call [] hcm (by simp) ?_;refine hC.vc [] 60 ?_;simp;exact go_to [(.can 0,.nm (.loc 48))] ihy (by simp [hw1,Kd.pv_eq,E.pv_eq])
   ·rw [if_neg (fun h=>h12 h.2)] at hn;obtain ⟨y,hy⟩:=fin ks hn hkl hkf;have ihy:=ih y (by rw [hy];simp;omega);rw [hy,hMk _ hmark,if_neg (by simp)] at ihy;refine hC.vc [] 60 ?_;simp [h12];refine hC.call [] hcm (by simp) ?_;refine hC.vc [] 60 ?_;simp;exact go_to [] ihy (by simp [hw1])
 ·rw [List.drop_eq_nil_of_le (by omega)] at hn;simp only [linesFrom] at hn;rw [hn] at hsp;simp only at hsp;have hfit:(Sc.mk ks ms).fit:=⟨fun k hk=>(hkf k hk).1,fun m hm=>by have:=hmf m hm;omega⟩;have hbytes:(Sc.mk ks ms).ok=true→(Sc.mk ks ms).bytes.length≤1000000000:=fun hok=>by
   have hm12:ms.length≤12:=(Sc.ok_kinds hok).2.2.1;have h1:=flat_bound lineK 9000000 ks fun k hk=>(hkf k hk).2;have h2:=flat_bound lineM 100006 ms fun m hm=>by
    have:=hmf m hm;have e:m.data.toList.length=m.size:=Array.length_toList;simp only [lineM,markS,List.length_append,List.length_cons,List.length_nil];omega
   have h3:ks.length*9000000≤13*9000000:=Nat.mul_le_mul_right _ hkl;have h4:ms.length*100006≤12*100006:=Nat.mul_le_mul_right _ (by omega);simp only [Sc.bytes,List.length_append];omega
  have hcp:=g19 tabs (Sc.mk ks ms) hfit hbytes;have hav:(Sc.mk ks ms).av = .agg [.pv (kds ks),.pv (strs ms)]:=rfl;rw [hav] at hcp;generalize (Sc.mk ks ms).print=pr at hcp hsp;obtain ⟨pt,pe⟩:=pr;simp only at hcp hsp;refine hC.vc [] 6 ?_;simp [hlt];refine go_to (M:=⟨[(0,vS (bs t)),(2,.ptr (.loc 2) 0),(4,.ptr (.loc 4) 0)],[(.loc 2,some (.box 25 [.pv (.nilS 5),.pv (.nilS 1)])),(.loc 4,some (.box 25 [.pv (kds ks),.pv (strs ms)]))]⟩) [] (hC.vc [] 60 ?_) (by simp);simp;refine hC.call [] hcp (by simp) ?_;by_cases he:pe=0
  ·by_cases hp:pt=bs t
   ·rw [if_pos ⟨he,hp⟩] at hsp;rw [hsp] at hC;refine hC.vc [] 60 ?_;simp [he,hp,Sc.av,Sc.cells]
   ·rw [if_neg (fun h=>hp h.2)] at hsp;rw [hsp] at hC;refine hC.vc [] 60 ?_;simp [he,hp,s0,Sc.av,Sc.cells]
  ·rw [if_neg (fun h=>he h.1)] at hsp;rw [hsp] at hC;refine hC.vc [] 60 ?_;simp [he,s0,Sc.av,Sc.cells]
theorem g29 (t:Bs)(ht:t.length≤2000):Fun Tryz.prog tabs 36 [vS (bs t)] [] (.tup [(sparse t).1.av,vI (sparse t).2]) []:=
 g29w t (by omega) fun l hl=>by have:=splitC_len 10 t l hl;omega
def Dc.first (d:Dc):ByteArray:=d.vals.headD ⟨#[]⟩
theorem g25 (Gl:Granted)(d:Dc):Fun Tryz.prog Gl 28 [d.av] [] (vS d.first) []:=by
 refine fun_of (T:=T4) (n:=11) (rs:=[.tmp 2]) Tryz.func28 (by kernel_rfl) rfl rfl rfl tok4 mixed (by simp) fun C hC=>?_;obtain ⟨nm,vals⟩:=d;cases vals with
 |nil=>
  refine hC.vc [] 60 ?_;simp [Dc.first]
 |cons v l=>
  have h1:¬((l.length:Int)+1=0):=by omega
  refine hC.vc [] 60 ?_;simp [Dc.first,h1]
def Dc.takes (d:Dc)(v:ByteArray):Bool:=if d.vals = [] then value v else d.vals.any fun x=>decide (v=x)
theorem g27 (d:Dc)(v:ByteArray)(hv:v.size≤9223372036854775807):Fun Tryz.prog tabs 29 [d.av,vS v] [] (vB (d.takes v)) []:=by
 refine fun_of (T:=T4) (n:=15) (rs:=[.tmp 4]) Tryz.func29 (by kernel_rfl) rfl rfl rfl tok4 mixed (by simp) fun C hC=>?_;have ht:d.takes v=if d.vals = [] then value v else d.vals.any fun x=>decide (v=x):=rfl
 obtain ⟨nm,vals⟩:=d;cases vals with
 |nil=>
  rw [if_pos rfl] at ht;refine hC.vc [] 60 ?_;simp;refine hC.call [] (f67 v hv) (by simp) ?_;refine hC.vc [] 60 ?_;simp [ht]
 |cons x l=>
  rw [if_neg (by simp)] at ht;have h1:¬((l.length:Int)+1=0):=by omega
  refine hC.vc [] 60 ?_;simp [h1];refine hC.call [] (g62 tabs (x::l) v) (by simp) ?_;refine hC.vc [] 60 ?_;simp [ht]
def exL1:Bs:=[110,111,100,101,32,100,111,99,58,32,112,97,114,97,43]
def paraK:ByteArray:=⟨#[112,97,114,97]⟩
def docK:ByteArray:=⟨#[100,111,99]⟩
def ex1:E:=.mk 43 ⟨#[]⟩ [.mk 110 paraK []]
def ex2:E:=.mk 42 ⟨#[]⟩ [.mk 110 textK []]
def ex1S:Bs:=[112,97,114,97,43]
def ex2S:Bs:=[116,101,120,116,42]
theorem leaf_many (n:ByteArray):(E.mk 110 n []).many=1:=by rw [E.many_eq];rfl
theorem leaf_ok {n:ByteArray}(h:isName n=true∨n=textK):(E.mk 110 n []).ok=true:=by
 rw [E.ok_eq];rcases h with h|h
 ·simp [E.op,E.kids,E.name,h]
 ·simp [E.op,E.kids,E.name,h,textK]
theorem one_many (o:Int)(ho:¬o=110)(x:ByteArray):(E.mk o ⟨#[]⟩ [.mk 110 x []]).many=2:=by
 rw [E.many_eq];show wr .i64 (1+(E.mk 110 x []).many)=2;rw [leaf_many]
 kernel_rfl
theorem one_right {o:Int}(ho:o=42∨o=43){x:ByteArray}(h:isName x=true∨x=textK):(E.mk o ⟨#[]⟩ [.mk 110 x []]).right=true:=by
 have h1:=one_many o (by omega) x;have h2:(E.mk o ⟨#[]⟩ [.mk 110 x []]).ok=true:=by
  rw [E.ok_eq];rcases ho with rfl|rfl<;>simp [E.op,E.kids,E.name,leaf_ok h,E.suffix]
 simp [E.right,h1,h2]
theorem para_name:isName paraK=true:=by decide +kernel
theorem ex1_right:ex1.right=true:=one_right (.inr rfl) (.inl para_name)
theorem ex2_right:ex2.right=true:=one_right (.inl rfl) (.inr rfl)
theorem ex1_read:read (bs ex1S)=(ex1,⟨⟨#[]⟩,false,1⟩):=by kernel_rfl
theorem ex2_read:read (bs ex2S)=(ex2,⟨⟨#[]⟩,false,1⟩):=by kernel_rfl
theorem ex1_text:ex1.text false=bs ex1S:=by kernel_rfl
theorem ex2_text:ex2.text false=bs ex2S:=by kernel_rfl
theorem ex1_parse:parse (bs ex1S)=(ex1,0):=by unfold parse;rw [ex1_read];simp [ex1_right,ex1_text]
theorem ex2_parse:parse (bs ex2S)=(ex2,0):=by unfold parse;rw [ex2_read];simp [ex2_right,ex2_text]
def exK1:Kd:=⟨docK,ex1,[]⟩
theorem ex_kind1:kindR (exL1.drop 5)=(exK1,true):=by
 have h1:cutT (exL1.drop 5) [58,32]=([100,111,99],ex1S,true):=by kernel_rfl
 have h2:splitC 32 ([100,111,99]:Bs) = [[100,111,99]]:=by kernel_rfl
 unfold kindR;rw [h1];simp only [if_true,h2,List.tail_cons,declsFrom,List.headD_cons,ex1_parse];rfl
theorem ex_occ1 (s:ByteArray):ex1.occ s↔s=paraK:=by
 rw [occ_eq,if_neg (by decide)];simp only [ex1,E.kids,List.mem_singleton,exists_eq_left];rw [occ_eq];exact Iff.rfl
theorem ex_occ2 (s:ByteArray):ex2.occ s↔s=textK:=by
 rw [occ_eq,if_neg (by decide)];simp only [ex2,E.kids,List.mem_singleton,exists_eq_left];rw [occ_eq];exact Iff.rfl
end Go.Proofs.D
namespace Go.Proofs.D
open Go Go.Abs Go.RowKit
theorem find_cases (s:Sc)(name:ByteArray):(s.place name<0∧s.find name=(k0,false))∨(¬s.place name<0∧∃k:Kd,s.find name=(k,true)∧k.name=name∧k∈s.kinds):=by
 rcases firstAt_lt (isKind name) s.kinds 0 with h|⟨j,h1,h2,h3⟩
 ·left;have h':s.place name<0:=h;exact ⟨h',by unfold Sc.find;rw [if_pos h']⟩
 ·right;have hp:s.place name=(j:Int):=by unfold Sc.place;rw [h1];simp
  refine ⟨by omega,s.kinds[j],?_,by simpa [isKind] using h3,by simp⟩;unfold Sc.find;rw [if_neg (by omega),hp];simp [h2]
end Go.Proofs.D
