/-
  WHAT ONE OPERATION DOES to the abstract memory: literals of structs and slices, append, slices of strings and rows.
-/
import Derived.Test.YtkjfaanenmhlbaaGreatDoorAbsG
import Derived.Laws.OwnMore
import Derived.Laws.Append
import Derived.Great.FillDense
import Derived.Maps.Range
import Derived.Maps.Views
import Derived.Maps.RangeWalk
set_option linter.unusedVariables false
set_option linter.unusedSimpArgs false
namespace Go.Abs
open Go.RowKit
def CRep (w:World)(F:Nat→Prop)(hd:Nm→Hd)(cs:List AV)(arr:Array Value):Prop:=
 arr.size=cs.length∧(∀(j:Nat) (c:AV) (v:Value),cs[j]?=some c→arr[j]?=some v→Rep w F hd c v)∧∀v∈arr.toList,v.oneCell'=true
theorem putAt_len {cs l:List AV}{off:Nat}(h:off+l.length≤cs.length):(putAt cs off l).length=cs.length:=by simp [putAt];omega
theorem putAt_get {cs l:List AV}{off:Nat}(h:off+l.length≤cs.length)(k:Nat):(putAt cs off l)[k]?=if off≤k∧k<off+l.length then l[k-off]? else cs[k]?:=by
 unfold putAt;rw [List.append_assoc,List.getElem?_append];have h1:(cs.take off).length=off:=by simp;omega
 rw [h1];by_cases hk:k<off
 ·rw [if_pos hk,if_neg (by omega),List.getElem?_take,if_pos hk]
 ·rw [if_neg hk,List.getElem?_append];by_cases hk2:k-off<l.length
  ·rw [if_pos hk2,if_pos (by omega)]
  ·rw [if_neg hk2,if_neg (by omega),List.getElem?_drop];congr 1;omega
def fillA (pl:Nat→Option (Nat × Nat))(ev:Operand→AV):List AV→List (Nat × Operand)→Option (List AV)
 |cs,[]=>some cs
 |cs,(i,x)::rest=>match pl i with
  |some (off,size)=>match (ev x).cellsOf with
   |some l=>if (Nat.beq l.length size&&Nat.ble (off+size) cs.length)=true then fillA pl ev (putAt cs off l) rest else none
   |none=>none
  |none=>none
theorem fill_cons {pl:Nat→Option (Nat × Nat)}{i off size:Nat}{v:Value}{arr:Array Value}{rest:List (Nat × Value)}(hp:pl i=some (off,size))(h1:v.cells.size=size)(h2:off+v.cells.size≤arr.size) :
 Instr.fill pl arr ((i,v)::rest)=Instr.fill pl (v.cells.zipIdx.foldl (fun cs (y:Value × Nat)=>cs.setIfInBounds (off+y.2) y.1) arr) rest:=by
 conv=>lhs;unfold Instr.fill
 simp only [hp];rw [if_neg (by simp;omega)]
theorem fillA_ok {w:World}{F:Nat→Prop}{hd:Nm→Hd}{pl:Nat→Option (Nat × Nat)}{ev:Operand→AV}{ρ:Operand→Value}:∀(parts:List (Nat × Operand)) (cs cs':List AV) (arr:Array Value),(∀q∈parts,Rep w F hd (ev q.2) (ρ q.2))→fillA pl ev cs parts=some cs'→CRep w F hd cs arr→
 ∃arr',Instr.fill pl arr (parts.map fun q=>(q.1,ρ q.2))=some arr'∧CRep w F hd cs' arr'
 |[],cs,cs',arr,_,h,hc=>by
  simp only [fillA,Option.some.injEq] at h;subst h;exact ⟨arr,rfl,hc⟩
 |(i,x)::rest,cs,cs',arr,hev,h,hc=>by
  simp only [fillA] at h;cases hp:pl i with
  |none=>rw [hp] at h;cases h
  |some q=>
   obtain ⟨off,size⟩:=q;rw [hp] at h;simp only at h;cases hl:(ev x).cellsOf with
   |none=>rw [hl] at h;cases h
   |some l=>
    rw [hl] at h;simp only at h;split at h
    ·rename_i hok;simp only [Bool.and_eq_true,Nat.beq_eq,Nat.ble_eq] at hok;obtain ⟨h1,h2⟩:=hok;obtain ⟨c1,c2,c3⟩:=cellsOf_rep (hev (i,x) (by simp)) hl;obtain ⟨a1,a2,a3⟩:=hc;have hfs:=Great.foldl_set off (ρ x).cells.toList 0 arr;have hfl:((ρ x).cells.zipIdx.foldl (fun cs (y:Value × Nat)=>cs.setIfInBounds (off+y.2) y.1) arr)=(((ρ x).cells.toList.zipIdx 0).foldl (fun cs (y:Value × Nat)=>cs.setIfInBounds (off+y.2) y.1) arr):=by
      rw [←Array.foldl_toList,Array.toList_zipIdx]
     have hstep:CRep w F hd (putAt cs off l) (((ρ x).cells.toList.zipIdx 0).foldl (fun cs (y:Value × Nat)=>cs.setIfInBounds (off+y.2) y.1) arr):=by
      have hget:∀k,(((ρ x).cells.toList.zipIdx 0).foldl (fun cs (y:Value × Nat)=>cs.setIfInBounds (off+y.2) y.1) arr)[k]?=if off≤k∧k<off+l.length then (ρ x).cells[k-off]? else arr[k]?:=by
       intro k;rw [hfs.2 k];simp only [Nat.add_zero,Array.length_toList,c1];by_cases hk:off≤k∧k<off+l.length
       ·rw [if_pos hk,if_pos ⟨hk.1,hk.2,by omega⟩];simp
       ·rw [if_neg hk,if_neg (by omega)]
      refine ⟨by rw [hfs.1,putAt_len (by omega)];exact a1,fun j c v hj hv=>?_,fun v hv=>?_⟩
      ·rw [putAt_get (by omega)] at hj;rw [hget] at hv;split at hj
       ·rename_i hk;rw [if_pos hk] at hv;exact c2 _ c v hj hv
       ·rename_i hk;rw [if_neg hk] at hv;exact a2 j c v hj hv
      ·obtain ⟨j,hj,he⟩:=List.getElem_of_mem hv;have hv':(((ρ x).cells.toList.zipIdx 0).foldl (fun cs (y:Value × Nat)=>cs.setIfInBounds (off+y.2) y.1) arr)[j]?=some v:=by
        rw [Array.getElem?_eq_getElem (by simpa using hj)];simpa using he
       rw [hget] at hv';split at hv'
       ·exact c3 v (by simpa using Array.mem_of_getElem? hv')
       ·exact a3 v (by simpa using Array.mem_of_getElem? hv')
     obtain ⟨arr',r1,r2⟩:=fillA_ok rest _ cs' _ (fun q hq=>hev q (by simp [hq])) h hstep;refine ⟨arr',?_,r2⟩;rw [List.map_cons,fill_cons hp (by rw [c1];exact h1) (by rw [c1,h1,a1];exact h2),hfl];exact r1
    ·cases h
def placesOf (T:TT):List (Nat × Nat)→Option (List (Nat × Nat))
 |[]=>some []
 |(off,t)::l=>match lkT T t with
  |some i=>match placesOf T l with
   |some ps=>some ((off,i.size)::ps)
   |none=>none
  |none=>none
theorem run_places {P:Program}{T:TT}(hT:TOk P T)(w:World):∀(l:List Field) (ps:List (Nat × Nat)),placesOf T (l.map fun f=>(f.offset,f.type))=some ps→(l.mapM fun f=>do pure (f.offset,←sizeOf f.type):Sem (List (Nat × Nat))).run P w = .ok ps w
 |[],ps,h=>by
  simp only [List.map_nil,placesOf,Option.some.injEq] at h;subst h;rfl
 |f::l,ps,h=>by
  simp only [List.map_cons,placesOf] at h;cases hl:lkT T f.type with
  |none=>rw [hl] at h;cases h
  |some i=>
   rw [hl] at h;simp only at h;cases hp:placesOf T (l.map fun f=>(f.offset,f.type)) with
   |none=>rw [hp] at h;cases h
   |some qs=>
    rw [hp] at h;cases h;obtain ⟨inf,z,j1,j2,_⟩:=(lkT_ok hT hl).info;have ih:=run_places hT w l qs hp;simp [List.mapM_cons,sizeOf,typeInfo,j1,j2] at ih ⊢;rw [ih];rfl
def stBuild (T:TT)(L:LS)(t:Nat)(parts:List (Nat × Operand)):SR:=match lkT T t with
 |some i=>match i.und with
  |.str fs=>match placesOf T fs with
   |some ps=>match fillA (ps[·]?) L.ev (i.zero.map .pv) parts with
    |some cs=>.act [] ⟨.agg cs,[]⟩ True
    |none=>.stop
   |none=>.stop
  |_=>.stop
 |none=>.stop
theorem stBuild_ok {C:Ctx}{T:TT}(hT:TOk C.P T){o:Oper}{L:LS}{t:TypeId}{parts:Array (Nat × Operand)}(hdst:∀d,o.dst=some d→d<C.fn.ntmps)(ho:o.op = .build t parts):SRok C o L (stBuild T L t parts.toList):=by
 unfold stBuild;cases hl:lkT T t with
 |none=>trivial
 |some i=>
  dsimp only;have ok:=lkT_ok hT hl;have hund:=ok.und;split
  ·rename_i fs hfs;rw [hfs] at hund;obtain ⟨d,hd1,hd2⟩:=hund;split
   ·rename_i ps hps;split
    ·rename_i cs hcs;refine .read fun _=>sem1_read hdst fun L' hd F a w hev hfp hi=>?_;obtain ⟨inf,z,j1,j2,j3,j4,j5,j6⟩:=ok.info;have hz:CRep w F hd (i.zero.map .pv) z.cells:=by
      refine ⟨by have:=congrArg List.length j5;simpa using this,fun j c v hj hv=>?_,fun v hv=>?_⟩
      ·rw [List.getElem?_map] at hj;cases hzj:i.zero[j]? with
       |none=>rw [hzj] at hj;cases hj
       |some p=>
        rw [hzj] at hj;cases hj;refine .pv _ _ (zero_rep ok w F j p v hzj ?_);rw [←j5];simpa using hv
      ·rw [j5] at hv;obtain ⟨p,hp,rfl⟩:=List.mem_map.1 hv;rcases ok.zero p hp with ⟨u',rfl,hu'⟩|⟨sz,rfl⟩
       ·exact hu'
       ·rfl
     obtain ⟨arr,r1,r2⟩:=fillA_ok (ρ:=a.eval) parts.toList _ _ _ (fun q hq=>hev q.2 (by simp [ho,Op.operands];exact ⟨q.1,by simpa using hq⟩)) hcs hz;have hpl:=run_places (P:=C.P) hT w d.toList ps (by rw [hd2];exact hps);refine ⟨.agg arr,?_,?_⟩
     ·have e:(parts.map fun (x:Nat × Operand)=>(x.1,a.eval x.2)).toList=parts.toList.map fun q=>(q.1,a.eval q.2):=(by simp);simp [sizeOf,typeInfo] at hpl;have hr1:Instr.fill (fun x=>ps[x]?) z.cells (parts.toList.map fun q=>(q.1,a.eval q.2))=some arr:=r1;simp [execOp,ho,Instr.build,zeroValue,sizeOf,typeInfo,j1,j4,run_underlying hd1,Array.mapM_eq_mapM_toList,hpl,hr1]
     ·have:=Rep.agg cs arr.toList (by simpa using r2.1) (fun j c v hj hv=>r2.2.1 j c v hj (by simpa using hv)) r2.2.2;simpa using this
    ·trivial
   ·trivial
  ·trivial
def toPV:AV→Option PV
 |.pv p=>match p with
  |.nilS sz=>some (.ro sz [])
  |p=>some p
 |_=>none
theorem toPV_rep {w:World}{F:Nat→Prop}{hd:Nm→Hd}{c:AV}{v:Value}{p:PV}(h:Rep w F hd c v)(hp:toPV c=some p):RepP w F p v:=by
 cases h with
 |pv q v hq=>
  simp only [toPV] at hp;split at hp
  ·rename_i sz;cases hp;cases hq;exact .ro sz [] none 0 (fun _ _=>undef) (fun _=>rfl) (by simp) (by simp) (fun i e h=>by simp at h) (fun h=>absurd rfl h) (fun i j e c h=>by simp at h)
  ·cases hp;exact hq
 |_=>simp [toPV] at hp
def allPV:List AV→Option (List PV)
 |[]=>some []
 |c::l=>match toPV c with
  |some p=>match allPV l with
   |some ps=>some (p::ps)
   |none=>none
  |none=>none
theorem allPV_get:∀ {l:List AV} {ps:List PV},allPV l=some ps→ps.length=l.length∧∀(j:Nat) (p:PV),ps[j]?=some p→∃c,l[j]?=some c∧toPV c=some p
 |[],ps,h=>by simp only [allPV,Option.some.injEq] at h;subst h;exact ⟨rfl,fun j p h=>by simp at h⟩
 |c::l,ps,h=>by
  simp only [allPV] at h;cases hc:toPV c with
  |none=>rw [hc] at h;cases h
  |some q=>
   rw [hc] at h;cases hl:allPV l with
   |none=>rw [hl] at h;cases h
   |some qs=>
    rw [hl] at h;cases h;obtain ⟨i1,i2⟩:=allPV_get hl;refine ⟨by simp [i1],fun j p hj=>?_⟩;cases j with
    |zero=>simp at hj;subst hj;exact ⟨c,rfl,hc⟩
    |succ j=>simp at hj;obtain ⟨c',h1,h2⟩:=i2 j p hj;exact ⟨c',by simpa using h1,h2⟩
def chunks:Nat→Nat→List AV→Option (List (List PV))
 |0,_,_=>some []
 |n+1,sz,cs=>match allPV (cs.take sz) with
  |some e=>match chunks n sz (cs.drop sz) with
   |some es=>some (e::es)
   |none=>none
  |none=>none
theorem chunks_get:∀ {n sz:Nat} {cs:List AV} {es:List (List PV)},chunks n sz cs=some es→cs.length=n*sz→es.length=n∧∀(i:Nat) (el:List PV),es[i]?=some el→el.length=sz∧∀(j:Nat) (p:PV),el[j]?=some p→∃c,cs[i*sz+j]?=some c∧toPV c=some p
 |0,sz,cs,es,h,_=>by simp only [chunks,Option.some.injEq] at h;subst h;exact ⟨rfl,fun j p h=>by simp at h⟩
 |n+1,sz,cs,es,h,hl=>by
  simp only [chunks] at h;cases hc:allPV (cs.take sz) with
  |none=>rw [hc] at h;cases h
  |some q=>
   rw [hc] at h;cases hr:chunks n sz (cs.drop sz) with
   |none=>rw [hr] at h;cases h
   |some qs=>
    rw [hr] at h;cases h;have hle:sz≤cs.length:=(by rw [hl,Nat.add_mul];omega);obtain ⟨i1,i2⟩:=chunks_get hr (by rw [List.length_drop,hl,Nat.add_mul];omega);obtain ⟨a1,a2⟩:=allPV_get hc;refine ⟨by simp [i1],fun i el hi=>?_⟩;cases i with
    |zero=>
     simp at hi;subst hi;refine ⟨by rw [a1];simp;omega,fun j p hj=>?_⟩;obtain ⟨c,h1,h2⟩:=a2 j p hj;have hjlt:=(List.getElem?_eq_some_iff.1 h1).1;rw [List.length_take] at hjlt;rw [List.getElem?_take,if_pos (by omega)] at h1;exact ⟨c,by simpa using h1,h2⟩
    |succ i=>
     simp at hi;obtain ⟨b1,b2⟩:=i2 i el hi;refine ⟨b1,fun j p hj=>?_⟩;obtain ⟨c,h1,h2⟩:=b2 j p hj;rw [List.getElem?_drop] at h1;exact ⟨c,by rw [←h1];congr 1;rw [Nat.add_mul];omega,h2⟩
def repL:Nat→List AV→List AV
 |0,_=>[]
 |n+1,l=>l++repL n l
theorem repL_len (n:Nat)(l:List AV):(repL n l).length=n*l.length:=by induction n with
 |zero=>simp [repL]
 |succ n ih=>simp [repL,ih,Nat.add_mul];omega
theorem repL_get (l:List AV):∀(n k:Nat),k<n*l.length→(repL n l)[k]?=l[k % l.length]?
 |0,k,h=>by simp at h
 |n+1,k,h=>by
  simp only [repL];rw [List.getElem?_append];by_cases hk:k<l.length
  ·rw [if_pos hk,Nat.mod_eq_of_lt hk]
  ·rw [if_neg hk,repL_get l n (k-l.length) (by rw [Nat.add_mul] at h;omega),←Nat.mod_eq_sub_mod (by omega)]
theorem inv_more {C:Ctx}{L:LS}{hd:Nm→Hd}{F F':Nat→Prop}{a:Act}{w w':World}(hi:Inv C L hd F a w)(hos:w'.os=w.os)(htape:w'.tape=w.tape)(hout:w'.output=w.output)(hsize:w.heap.size≤w'.heap.size)
 (hsame:∀k,k<w.heap.size→w'.heap[k]?=w.heap[k]?) (hF:∀k,F k→F' k) (hnew:∀k,F' k→F k∨(w.heap.size≤k∧k<w'.heap.size)):Inv C L hd F' a w':=by
 have hs:∀k,F k→w'.heap[k]?=w.heap[k]?:=fun k hk=>hsame k (hi.fin k hk).1;refine { slots:=fun t=>(hi.slots t).mono hs hF fun _ _=>.inl rfl,blocks:=fun r=>(hi.blocks r).mono hs hF rfl (fun k hk=>hsame k (hi.mine r k hk).2.1) fun _ _ _ _=>.inl rfl,sep:=hi.sep,mine:=fun r k hk=>?_,fin:=fun k hk=>?_,more:=fun k hk=>hF k (hi.more k hk),kept:=hi.kept,gl:=C.Gl.mono hi.gl hs hF,os:=hos.trans hi.os,tape:=htape.trans hi.tape,output:=hout.trans hi.output,size:=Nat.le_trans hi.size hsize,old:=fun k hk hm=>(hsame k (Nat.lt_of_lt_of_le hk hi.size)).trans (hi.old k hk hm),ntmps:=hi.ntmps,defers:=hi.defers }
 ·obtain ⟨q1,q2,q3⟩:=hi.mine r k hk;refine ⟨fun h=>?_,Nat.lt_of_lt_of_le q2 hsize,q3⟩;rcases hnew k h with h|h
  ·exact q1 h
  ·omega
 ·rcases hnew k hk with h|h
  ·exact ⟨Nat.lt_of_lt_of_le (hi.fin k h).1 hsize,(hi.fin k h).2⟩
  ·exact ⟨h.2,.inr (.inl (Nat.le_trans hi.size h.1))⟩
def unName (old:Option Nm):List (Nm × Option Blk):=match old with
 |some r0=>[(r0,none)]
 |none=>[]
theorem inv_row {C:Ctx}{L:LS}{hd:Nm→Hd}{F:Nat→Prop}{a:Act}{w w':World}(hi:Inv C L hd F a w){r:Nm}(hna:∀i,r≠.arg i)(hb:L.blk r=none)(hf:L.Fresh r)(old:Option Nm)(v0 v:Value)(hold:∀r0,old=some r0→hd r0 = .row v0∧r0≠r)(hnil:old=none→v0.ownBlock=none)
 (hg:w.grownBy w' v0.ownBlock) (e sz:Nat) (es:List (List PV)) (cells:List Value) (hown:w'.ownsRow 0 e sz v es.length cells) (hel:∀(i:Nat) (el:List PV),es[i]?=some el→el.length=sz)
 (hrep:∀(i j:Nat) (el:List PV) (c:PV) (u:Value),es[i]?=some el→el[j]?=some c→cells[i*sz+j]?=some u→RepP w F c u) (h1:∀u∈cells,u.oneCell'=true) (hv:∀k,v.ownBlock=some k→w.heap.size≤k∨v0.ownBlock=some k) :
 ∃hd',Inv C (L.upd (unName old++[(r,some (.row e sz es))])) hd' F a w'∧Rep w' F hd' (.own r) v:=by
 have hdead:hd r = .dead:=by have:=hi.blocks r;rw [hb] at this;exact this
 have hv1:v.oneCell'=true:=by
  rcases hown.2 with ⟨rfl,_⟩|⟨g,cap,cur,rfl,_⟩<;>rfl
 have hlt:∀k,v.ownBlock=some k→k<w'.heap.size:=fun k hk=>(hown.lt k hk).2;have hmem:∀s,s∈(unName old++[(r,some (Blk.row e sz es))]).map (·.1)↔old=some s∨s=r:=by
  intro s;cases old<;>simp [unName]
  exact ⟨fun h=>h.imp Eq.symm id,fun h=>h.imp Eq.symm id⟩
 have hwr:∀k,v0.ownBlock=some k→∃r0,old=some r0∧(hd r0).owns k:=fun k hk=>by
  cases ho:old with
  |none=>rw [hnil ho] at hk;cases hk
  |some r0=>exact ⟨r0,rfl,by rw [(hold r0 ho).1];exact hk⟩
 have hsame:∀k,k<w.heap.size→¬v0.ownBlock=some k→w'.heap[k]?=w.heap[k]?:=fun k hk hn=>hg.block k hk fun e=>hn e.symm;have hF:∀k,F k→w'.heap[k]?=w.heap[k]?:=fun k hk=>hsame k (hi.fin k hk).1 fun hn=>by
  obtain ⟨r0,_,ho⟩:=hwr k hn;exact (hi.mine r0 k ho).1 hk
 refine ⟨fun s=>if s=r then .row v else if old=some s then .dead else hd s,inv_upd hi _ _ (fun k=>v0.ownBlock=some k) hg.os hg.tape hg.output hg.size hsame (fun k hk=>by obtain ⟨r0,_,ho⟩:=hwr k hk;exact ⟨r0,ho⟩) (fun s hs=>?_) (fun s b hs=>?_) (fun s hs=>?_) (fun r' s k hne h2 h3=>?_) (fun r' k hk=>?_),?_⟩
 ·rw [hmem,not_or] at hs;refine ⟨by simp [hs],fun k hk hn=>?_⟩;obtain ⟨r0,ho,hk0⟩:=hwr k hn;exact hi.sep s r0 k (fun e=>hs.1 (e ▸ ho)) hk hk0
 ·by_cases hsr:s=r
  ·subst hsr;have:b=some (.row e sz es):=by
    cases old with
    |none=>simpa [unName,upsGet] using hs.symm
    |some r0=>simpa [unName,upsGet] using hs.symm
   subst this;refine ⟨v,cells,by simp,hown,hel,fun i j el c u a1 a2 a3=>(hrep i j el c u a1 a2 a3).mono hF (fun _ h=>h),h1⟩
  ·cases ho:old with
   |none=>
    subst ho;have:¬r=s:=fun e=>hsr e.symm;simp [unName,upsGet,this] at hs
   |some r0=>
    subst ho;have:¬r=s:=fun e=>hsr e.symm;by_cases h0:r0=s
    ·subst h0;simp [unName,upsGet,this] at hs;subst hs;simp [HoldB,hsr]
    ·simp [unName,upsGet,this,h0] at hs
 ·rw [hmem] at hs;by_cases hsr:s=r
  ·subst hsr;exact .inr (.inr ⟨hf,hna⟩)
  ·rcases hs with hs|hs
   ·right;left;simp [hsr,hs]
   ·exact absurd hs hsr
 ·have hcase:∀q,(if q=r then Hd.row v else if old=some q then .dead else hd q).owns k→(q=r∧v.ownBlock=some k)∨(q≠r∧old≠some q∧(hd q).owns k):=by
   intro q hq;by_cases hqr:q=r
   ·rw [if_pos hqr] at hq;exact .inl ⟨hqr,hq⟩
   ·rw [if_neg hqr] at hq;by_cases hqo:old=some q
    ·rw [if_pos hqo] at hq;exact hq.elim
    ·rw [if_neg hqo] at hq;exact .inr ⟨hqr,hqo,hq⟩
  have hx:∀q,v.ownBlock=some k→q≠r→old≠some q→¬(hd q).owns k:=by
   intro q hk hqr hqo hq;rcases hv k hk with h|h
   ·have:=(hi.mine q k hq).2.1;omega
   ·obtain ⟨r0,ho,hk0⟩:=hwr k h;exact hi.sep q r0 k (fun e=>hqo (e ▸ ho)) hq hk0
  rcases hcase r' h2 with ⟨e1,k1⟩|⟨e1,e1',k1⟩<;>rcases hcase s h3 with ⟨e2,k2⟩|⟨e2,e2',k2⟩
  ·exact hne (e1.trans e2.symm)
  ·exact hx s k1 e2 e2' k2
  ·exact hx r' k2 e1 e1' k1
  ·exact hi.sep r' s k hne k1 k2
 ·by_cases hqr:r'=r
  ·rw [if_pos hqr] at hk;refine ⟨?_,hlt k hk⟩;rcases hv k hk with h|h
   ·exact .inr h
   ·obtain ⟨r0,_,ho⟩:=hwr k h;exact .inl ⟨r0,ho⟩
  ·rw [if_neg hqr] at hk;by_cases hqo:old=some r'
   ·rw [if_pos hqo] at hk;exact hk.elim
   ·rw [if_neg hqo] at hk;exact ⟨.inl ⟨r',hk⟩,Nat.lt_of_lt_of_le (hi.mine r' k hk).2.1 hg.size⟩
 ·exact .own r v hv1 fun u hu=>by simp at hu;exact hu
def sliceCells (T:TT)(L:LS)(t len:Nat)(parts:List (Nat × Operand)):Option (Nat × TI × List (List PV)):=match sliceE T t with
 |some e=>match lkT T e with
  |some i=>match fillA (fun k=>some (k*i.size,i.size)) L.ev (repL len (i.zero.map .pv)) parts with
   |some cs=>match chunks len i.size cs with
    |some es=>some (e,i,es)
    |none=>none
   |none=>none
  |none=>none
 |none=>none
def stBuildSlice (T:TT)(W:List Nat)(L:LS)(dst:Option Nat)(t len:Nat)(parts:List (Nat × Operand)):SR:=match sliceCells T L t len parts with
 |some (e,i,es)=>match dst with
  |some d=>if W.contains d=true then (if newOk L (.loc d)=true then .act [] ⟨.own (.loc d),[(.loc d,some (.row e i.size es))]⟩ (len*i.size≤16777216) else .stop) else .act [] ⟨.pv (.ro i.size es),[]⟩ (len*i.size≤16777216)
  |none=>.stop
 |none=>.stop
theorem run_buildSlice {C:Ctx}{T:TT}(hT:TOk C.P T){L:LS}{t len:Nat}{parts:Array (Nat × Operand)}{e:Nat}{i:TI}{es:List (List PV)}(h:sliceCells T L t len parts.toList=some (e,i,es))(hb:len*i.size≤16777216)
 {w:World} {F:Nat→Prop} {hd:Nm→Hd} {a:Act} (hev:∀q∈parts.toList,Rep w F hd (L.ev q.2) (a.eval q.2)) :
 ∃arr:Array Value,(Instr.buildSlice t len (parts.map fun (x:Nat × Operand)=>(x.1,a.eval x.2))).run C.P w = .ok (.slice (some ⟨w.heap.size,0,none⟩) len len) (w.alloc (.cells arr e))∧arr.size=len*i.size∧es.length=len∧(∀v∈arr.toList,v.oneCell'=true)∧
  (∀(k:Nat) (el:List PV),es[k]?=some el→el.length=i.size∧∀(j:Nat) (p:PV) (u:Value),el[j]?=some p→arr[k*i.size+j]?=some u→RepP w F p u):=by
 unfold sliceCells at h;cases he:sliceE T t with
 |none=>rw [he] at h;cases h
 |some e'=>
  rw [he] at h;simp only at h;cases hl:lkT T e' with
  |none=>rw [hl] at h;cases h
  |some i'=>
   rw [hl] at h;simp only at h;cases hcs:fillA (fun k=>some (k*i'.size,i'.size)) L.ev (repL len (i'.zero.map .pv)) parts.toList with
   |none=>rw [hcs] at h;cases h
   |some cs=>
    rw [hcs] at h;simp only at h;cases hes:chunks len i'.size cs with
    |none=>rw [hes] at h;cases h
    |some es'=>
     rw [hes] at h;simp only [Option.some.injEq,Prod.mk.injEq] at h;obtain ⟨rfl,rfl,rfl⟩:=h;have ok:=lkT_ok hT hl;obtain ⟨inf,z,j1,j2,j3,j4,j5,j6⟩:=ok.info;have hzs:z.cells.size=i'.size:=(by have:=congrArg List.length j5;simp at this;omega);have hzl:(i'.zero.map AV.pv).length=i'.size:=by simp [j6]
     let A0:Array Value:=(Array.range (len*i'.size)).map (z.cells[· % z.cells.size]!)
     have hz:CRep w F hd (repL len (i'.zero.map .pv)) A0:=by
      have hpos:=ok.one;have hget:∀k v,A0[k]?=some v→k<len*i'.size∧z.cells[k % i'.size]?=some v:=by
       intro k v hk;have hklt:=(Array.getElem?_eq_some_iff.1 hk).1;simp only [A0,Array.size_map,Array.size_range] at hklt;simp only [A0,Array.getElem?_map,Array.getElem?_range,hklt,if_true,Option.map_some,Option.some.injEq,hzs] at hk;have hm:k % i'.size<z.cells.size:=(by rw [hzs];exact Nat.mod_lt _ hpos);refine ⟨hklt,?_⟩;rw [←hk,getElem!_pos z.cells _ hm];exact Array.getElem?_eq_getElem hm
      refine ⟨by simp [A0,repL_len,j6],fun j c v hj hv=>?_,fun v hv=>?_⟩
      ·obtain ⟨hlt,hv'⟩:=hget j v hv;rw [repL_get _ _ _ (by rw [hzl];exact hlt),hzl,List.getElem?_map] at hj;cases hzj:i'.zero[j % i'.size]? with
       |none=>rw [hzj] at hj;cases hj
       |some p=>
        rw [hzj] at hj;cases hj;refine .pv _ _ (zero_rep ok w F _ p v hzj ?_);rw [←j5];simpa using hv'
      ·obtain ⟨j,hj,hje⟩:=List.getElem_of_mem hv;obtain ⟨_,hv'⟩:=hget j v (by rw [Array.getElem?_eq_getElem (by simpa using hj)];simpa using hje);have hm:v∈i'.zero.map PV.raw:=(by rw [←j5];simpa using Array.mem_of_getElem? hv');obtain ⟨p,hp,rfl⟩:=List.mem_map.1 hm;rcases ok.zero p hp with ⟨u',rfl,hu'⟩|⟨sz,rfl⟩
       ·exact hu'
       ·rfl
     obtain ⟨arr,r1,r2⟩:=fillA_ok (ρ:=a.eval) parts.toList _ _ _ hev hcs hz;have hcl:cs.length=len*i'.size:=by
      have:∀(l:List (Nat × Operand)) (x y:List AV),fillA (fun k=>some (k*i'.size,i'.size)) L.ev x l=some y→y.length=x.length:=by
       intro l;induction l with
       |nil=>intro x y h;simp only [fillA,Option.some.injEq] at h;rw [h]
       |cons q l ih=>
        intro x y h;obtain ⟨k,o⟩:=q;simp only [fillA] at h;cases hc:(L.ev o).cellsOf with
        |none=>rw [hc] at h;cases h
        |some l'=>
         rw [hc] at h;simp only at h;split at h
         ·rename_i hok;simp only [Bool.and_eq_true,Nat.beq_eq,Nat.ble_eq] at hok;rw [ih _ _ h,putAt_len (by omega)]
         ·cases h
      rw [this _ _ _ hcs,repL_len,hzl]
     obtain ⟨c1,c2⟩:=chunks_get hes hcl;refine ⟨arr,?_,by rw [r2.1,hcl],c1,r2.2.2,fun k el hk=>⟨(c2 k el hk).1,fun j p u hj hu=>?_⟩⟩
     ·have e:(parts.map fun (x:Nat × Operand)=>(x.1,a.eval x.2)).toList=parts.toList.map fun q=>(q.1,a.eval q.2):=(by simp);have hu:=run_underlying (P:=C.P) (w:=w) (sliceE_ok hT he);by_cases h0:len*i'.size=0
      ·have hA:A0 = #[]:=(by simp [A0,h0]);have hA2:((Array.range (len*i'.size)).map ((#[]:Array Value)[· % (#[]:Array Value).size]!)) = #[]:=(by simp [h0]);have r1':Instr.fill (fun k=>some (k*i'.size,i'.size)) #[] (parts.toList.map fun q=>(q.1,a.eval q.2))=some arr:=(by rw [←hA];exact r1);have hr0:Array.range 0 = #[]:=rfl;simp [Instr.buildSlice,run_underlying (sliceE_ok hT he),sizeOf,typeInfo,j1,j2,h0,hr0,r1',newRow]
      ·have hA:((Array.range (len*i'.size)).map (z.cells[· % z.cells.size]!))=A0:=rfl;simp [Instr.buildSlice,run_underlying (sliceE_ok hT he),sizeOf,zeroValue,typeInfo,j1,j2,j4,hb,h0,hA,r1,newRow]
     ·obtain ⟨c,h1,h2⟩:=(c2 k el hk).2 j p hj;exact toPV_rep (r2.2.1 _ c u h1 hu) h2
theorem stBuildSlice_ok {C:Ctx}{T:TT}(hT:TOk C.P T){W:List Nat}{o:Oper}{L:LS}{t:TypeId}{len:Nat}{parts:Array (Nat × Operand)}(hdst:∀d,o.dst=some d→d<C.fn.ntmps)(ho:o.op = .buildSlice t len parts):SRok C o L (stBuildSlice T W L o.dst t len parts.toList):=by
 unfold stBuildSlice;cases hs:sliceCells T L t len parts.toList with
 |none=>trivial
 |some q=>
  obtain ⟨e,i,es⟩:=q;dsimp only;have hparts:∀ {w:World} {F:Nat→Prop} {hd:Nm→Hd} {a:Act},(∀x∈o.op.operands.toList,Rep w F hd (L.ev x) (a.eval x))→∀q∈parts.toList,Rep w F hd (L.ev q.2) (a.eval q.2):=fun hev q hq=>hev q.2 (by simp [ho,Op.operands];exact ⟨q.1,by simpa using hq⟩);cases hd:o.dst with
  |none=>trivial
  |some d=>
   dsimp only;split
   ·split
    ·rename_i hn;intro hb;obtain ⟨n1,n2⟩:=newOk_spec hn;refine ⟨sem1_of hdst fun L' hd' F a w hev hfp hnew hi=>?_,by simp,fun r hr=>?_⟩
     ·obtain ⟨m1,m2⟩:=hnew (.loc d) (by simp [news]);obtain ⟨arr,r1,r2,r3,r4,r5⟩:=run_buildSlice hT hs hb (hparts hev);have hsmall:len≤maxLen:=by
       have h1:=(lkT_ok (T:=T) hT (t:=e) (i:=i) (by
        unfold sliceCells at hs;cases he:sliceE T t with
        |none=>rw [he] at hs;cases hs
        |some e'=>
         rw [he] at hs;simp only at hs;cases hl:lkT T e' with
         |none=>rw [hl] at hs;cases hs
         |some i'=>
          rw [hl] at hs;simp only at hs;split at hs
          ·split at hs
           ·simp only [Option.some.injEq,Prod.mk.injEq] at hs;obtain ⟨rfl,rfl,_⟩:=hs;exact hl
           ·cases hs
          ·cases hs)).one
       have:=Nat.le_mul_of_pos_right len h1;simp only [maxLen];omega
      have hown:=World.ownsRow_lit (base:=0) (e:=e) (size:=i.size) w arr len (Nat.zero_le _) hsmall r2;have hown:(w.alloc (.cells arr e)).ownsRow 0 e i.size (.slice (some ⟨w.heap.size,0,none⟩) len len) es.length arr.toList:=(by rw [r3];exact hown);have hg:w.grownBy (w.alloc (.cells arr e)) (Value.ownBlock (.slice none 0 0)):=World.grownBy_alloc w _ _;obtain ⟨hd'',k1,k2⟩:=inv_row hi (r:=.loc d) (by simp) m1 m2 none (.slice none 0 0) (.slice (some ⟨w.heap.size,0,none⟩) len len) (by simp) (by simp [Value.ownBlock]) hg e i.size es arr.toList hown (fun k el hk=>(r5 k el hk).1) (fun k j el c u a1 a2 a3=>(r5 k el a1).2 j c u a2 (by simpa using a3)) r4
       (fun k hk=>by simp only [Value.ownBlock,Option.some.injEq] at hk;exact .inl (by omega))
      refine ⟨_,_,hd'',F,.inl ?_,by simpa [unName] using k1,k2⟩;simp [execOp,ho,r1]
     ·simp [news] at hr;subst hr;exact ⟨n1,n2,by simp [mayMake1,hd,ho,makes]⟩
    ·trivial
   ·refine .read fun hb=>?_;intro L' hd' F a w hev hfp hnew hi K Q hK;have hev':∀x∈o.op.operands.toList,Rep w F hd' (L.ev x) (a.eval x):=fun x hx=>by rw [←hev x hx];exact ev_rep hi x
    obtain ⟨arr,r1,r2,r3,r4,r5⟩:=run_buildSlice hT hs hb (hparts hev');have hsame:∀k,k<w.heap.size→(w.alloc (.cells arr e)).heap[k]?=w.heap[k]?:=fun k hk=>Below.heap_alloc _ _ _ hk;have hinv:Inv C L' hd' (fun k=>F k∨k=w.heap.size) a (w.alloc (.cells arr e)):=inv_more hi rfl rfl rfl (by simp) hsame (fun _ h=>.inl h) (fun k hk=>hk.imp id fun h=>by subst h;simp);have hrep:Rep (w.alloc (.cells arr e)) (fun k=>F k∨k=w.heap.size) hd' (.pv (.ro i.size es)) (.slice (some ⟨w.heap.size,0,none⟩) len len):=by
     refine .pv _ _ ?_;rw [←r3];have hcell:∀(k j:Nat) (el:List PV) (c:PV),es[k]?=some el→el[j]?=some c→arr[k*i.size+j]?=some (arr.getD (k*i.size+j) undef):=by
      intro k j el c hk hj;have h1:k<es.length:=(List.getElem?_eq_some_iff.1 hk).1;have h2:j<i.size:=(by rw [←(r5 k el hk).1];exact (List.getElem?_eq_some_iff.1 hj).1);have hlt:k*i.size+j<arr.size:=by
       rw [r2,←r3]
       calc k*i.size+j<k*i.size+i.size:=by omega
        _=(k+1)*i.size:=by rw [Nat.add_mul,Nat.one_mul]
        _≤es.length*i.size:=Nat.mul_le_mul_right _ h1
      simp [Array.getD_eq_getD_getElem?,hlt]
     refine .ro i.size es (some ⟨w.heap.size,0,none⟩) es.length (fun k j=>arr.getD (k*i.size+j) undef) (fun h=>by cases h) (Nat.le_refl _) ?_ (fun k el hk=>(r5 k el hk).1) (fun _=>⟨⟨w.heap.size,0,none⟩,rfl,rfl,.inr rfl,fun k j el c hk hj=>?_⟩) (fun k j el c hk hj=>?_)
     ·rw [r3];by_cases h0:len=0
      ·omega
      ·by_cases hz:i.size=0
       ·exfalso;unfold sliceCells at hs;cases he:sliceE T t with
        |none=>rw [he] at hs;cases hs
        |some e'=>
         rw [he] at hs;simp only at hs;cases hl:lkT T e' with
         |none=>rw [hl] at hs;cases hs
         |some i'=>
          rw [hl] at hs;simp only at hs;split at hs
          ·split at hs
           ·simp only [Option.some.injEq,Prod.mk.injEq] at hs;obtain ⟨_,rfl,_⟩:=hs;have:=(lkT_ok hT hl).one;omega
           ·cases hs
          ·cases hs
       ·have:=Nat.le_mul_of_pos_right len (Nat.pos_of_ne_zero hz);omega
     ·rw [add_plain,cell_at (heap_alloc_new w _)];exact hcell k j el c hk hj
     ·exact ((r5 k el hk).2 j c _ hj (hcell k j el c hk hj)).mono (fun k hk=>hsame k (hi.fin k hk).1) (fun _ h=>.inl h)
    unfold Oper.wp;have:(execOp a.eval o).run C.P w = .ok (.value (.slice (some ⟨w.heap.size,0,none⟩) len len)) (w.alloc (.cells arr e)):=(by simp [execOp,ho,r1]);rw [this];have hput:=hinv.put o.dst hrep hdst;exact hK _ _ _ _ (by simpa [LS.app,LS.upd] using hput)
def appBase (T:TT)(L:LS)(x:Operand)(i:TI)(e:Nat):Option (Option (Nm × Blk) × List (List PV)):=match L.ev x with
 |.own r=>match L.blk r with
  |some (.row e' sz es)=>if (Nat.beq e' e&&Nat.beq sz i.size)=true then some (some (r,.row e' sz es),es) else none
  |_=>none
 |.pv (.nilS _)=>some (none,[])
 |_=>none
def appTail (L:LS)(y:Operand)(i:TI):Option (List (List PV)):=match L.ev y with
 |.pv (.ro sz es)=>if Nat.beq sz i.size=true then some es else none
 |.pv (.nilS _)=>some []
 |_=>none
def stAppend (T:TT)(L:LS)(dst:Option Nat)(t:Nat)(x y:Operand):SR:=match sliceE T t with
 |some e=>match lkT T e with
  |some i=>match appBase T L x i e with
   |some (old,es)=>match appTail L y i with
    |some es'=>match dst with
     |some d=>if newOk L (.loc d)=true then .act (match old with|some q=>[q]|none=>[]) ⟨.own (.loc d),unName (old.map (·.1))++[(.loc d,some (.row e i.size (es++es')))]⟩ ((es.length+es'.length)*i.bytes≤140737488355328∧es.length+es'.length≤9223372036854775807) else .stop
     |none=>.stop
    |none=>.stop
   |none=>.stop
  |none=>.stop
 |none=>.stop
theorem flat_len (sz:Nat)(u:Nat→Nat→Value)(n:Nat):((List.range n).flatMap fun i=>(List.range sz).map (u i)).length=n*sz:=by
 induction n with
 |zero=>simp
 |succ n ih=>rw [List.range_succ,List.flatMap_append,List.length_append,ih];simp [Nat.add_mul]
theorem flat_get {sz:Nat}:∀ {es:List (List PV)} {u:Nat→Nat→Value} (hl:∀(i:Nat) (el:List PV),es[i]?=some el→el.length=sz) (k:Nat),
 ((List.range es.length).flatMap fun i=>(List.range sz).map (u i))[k]?=if k<es.length*sz then some (u (k/sz) (k % sz)) else none:=by
 intro es u hl k;have key:∀(n k:Nat),((List.range n).flatMap fun i=>(List.range sz).map (u i))[k]?=if k<n*sz then some (u (k/sz) (k % sz)) else none:=by
  intro n;induction n with
  |zero=>intro k;simp
  |succ n ih=>
   intro k;rw [List.range_succ,List.flatMap_append,List.getElem?_append];have hlen:((List.range n).flatMap fun i=>(List.range sz).map (u i)).length=n*sz:=flat_len sz u n;rw [hlen,ih];by_cases hk:k<n*sz
   ·rw [if_pos hk,if_pos hk,if_pos (by rw [Nat.add_mul];omega)]
   ·rw [if_neg hk];simp only [List.flatMap_cons,List.flatMap_nil,List.append_nil,List.getElem?_map];by_cases hk2:k<(n+1)*sz
    ·rw [if_pos hk2];have h3:k-n*sz<sz:=(by rw [Nat.add_mul] at hk2;omega);have hd:k/sz=n:=Nat.div_eq_of_lt_le (by omega) hk2;have hm:k % sz=k-n*sz:=by
      have:=Nat.div_add_mod k sz;rw [hd,Nat.mul_comm] at this;omega
     rw [hd,hm,List.getElem?_range h3];rfl
    ·rw [if_neg hk2];have h3:¬k-n*sz<sz:=(by rw [Nat.add_mul] at hk2;omega);rw [List.getElem?_eq_none (by simpa using h3)];rfl
 exact key _ _
theorem tail_cells {w:World}{F:Nat→Prop}{sz:Nat}{es:List (List PV)}{v:Value}(hsz:0<sz)(h:RepP w F (.ro sz es) v):∃news:List Value,(es = []∧news = []∧v = .slice none 0 0∨∃ad c,v = .slice (some ad) es.length c)∧news.length=es.length*sz∧(∀ad n c,v = .slice (some ad) n c→∀j u,news[j]?=some u→w.cell? (ad.add j)=some u)∧(∀u∈news,u.oneCell'=true)∧
 (∀(i:Nat) (el:List PV),es[i]?=some el→el.length=sz)∧∀(i j:Nat) (el:List PV) (c:PV) (u:Value),es[i]?=some el→el[j]?=some c→news[i*sz+j]?=some u→RepP w F c u:=by
 cases h with
 |ro _ _ A cap u hA hc hm hl ha hr=>
  refine ⟨(List.range es.length).flatMap fun i=>(List.range sz).map (u i),?_,flat_len sz u _,fun ad n c hv j x hj=>?_,fun x hx=>?_,hl,fun i j el c x h1 h2 h3=>?_⟩
  ·cases A with
   |none=>
    have:es = []:=by
     have:=hA rfl;exact List.eq_nil_of_length_eq_zero (by omega)
    subst this;have:=hA rfl;subst this;exact .inl ⟨rfl,by simp,rfl⟩
   |some ad=>exact .inr ⟨ad,cap,rfl⟩
  ·injection hv with e1 e2 e3
   subst e1;rw [flat_get hl] at hj;split at hj
   ·rename_i hlt;cases hj;have hi:j/sz<es.length:=(Nat.div_lt_iff_lt_mul hsz).2 hlt;have hj':j % sz<sz:=Nat.mod_lt _ hsz;have hne:es≠[]:=fun e=>by subst e;simp at hi
    obtain ⟨ad',e1,_,_,hcell⟩:=ha hne;cases e1;have hel:=List.getElem?_eq_getElem hi;have hlen:=hl _ _ hel;have:=hcell (j/sz) (j % sz) _ _ hel (List.getElem?_eq_getElem (by rw [hlen];exact hj'))
    rwa [show j/sz*sz+j % sz=j by rw [Nat.mul_comm];exact Nat.div_add_mod j sz] at this
   ·cases hj
  ·obtain ⟨k,hk,he⟩:=List.getElem_of_mem hx;have hk':((List.range es.length).flatMap fun i=>(List.range sz).map (u i))[k]?=some x:=(by rw [List.getElem?_eq_getElem hk,he]);rw [flat_get hl] at hk';split at hk'
   ·rename_i hlt;cases hk';have hi:k/sz<es.length:=(Nat.div_lt_iff_lt_mul hsz).2 hlt;have hel:=List.getElem?_eq_getElem hi;have hlen:=hl _ _ hel;exact (hr (k/sz) (k % sz) _ _ hel (List.getElem?_eq_getElem (by rw [hlen];exact Nat.mod_lt _ hsz))).one
   ·cases hk'
  ·have h4:j<sz:=(by rw [←hl i el h1];exact (List.getElem?_eq_some_iff.1 h2).1);rw [flat_get hl] at h3;split at h3
   ·cases h3;have e1:(i*sz+j)/sz=i:=(by rw [Nat.mul_comm,Nat.mul_add_div hsz,Nat.div_eq_of_lt h4];rfl);have e2:(i*sz+j) % sz=j:=(by rw [Nat.mul_comm,Nat.mul_add_mod,Nat.mod_eq_of_lt h4]);rw [e1,e2];exact hr i j el c h1 h2
   ·cases h3
theorem stAppend_ok {C:Ctx}{T:TT}(hT:TOk C.P T){o:Oper}{L:LS}{t:TypeId}{c:Call}{x y:Operand}(hdst:∀d,o.dst=some d→d<C.fn.ntmps)(ho:o.op = .call c)(hc:c.callee = .builtin .append)(hx':c.args = #[x,y])(ht:c.argTypes = #[t,t]):SRok C o L (stAppend T L o.dst t x y):=by
 unfold stAppend;cases he:sliceE T t with
 |none=>trivial
 |some e=>
 dsimp only;cases hl:lkT T e with
 |none=>trivial
 |some i=>
 dsimp only;cases hb:appBase T L x i e with
 |none=>trivial
 |some q=>
 obtain ⟨old,es⟩:=q;dsimp only;cases ht':appTail L y i with
 |none=>trivial
 |some es'=>
 dsimp only;cases hd:o.dst with
 |none=>trivial
 |some d=>
 dsimp only;split
 ·rename_i hn;obtain ⟨n1,n2⟩:=newOk_spec hn;intro hp;have hmx:x∈o.op.operands.toList:=by simp [ho,Op.operands,Call.operands,hx',hc]
  have hmy:y∈o.op.operands.toList:=by simp [ho,Op.operands,Call.operands,hx',hc]
  have ok:=lkT_ok hT hl;obtain ⟨inf,z,j1,j2,j3,j4,j5,j6⟩:=ok.info;have hzs:z.cells.size=i.size:=by have:=congrArg List.length j5;simp at this;omega
  have hold:∀q,old=some q→∃r0,q=(r0,.row e i.size es)∧L.ev x = .own r0∧L.blk r0=some (.row e i.size es):=by
   intro q hq;subst hq;unfold appBase at hb;split at hb
   ·rename_i r hxr;split at hb
    ·rename_i e' sz es0 hbl;split at hb
     ·rename_i hok;simp only [Bool.and_eq_true,Nat.beq_eq] at hok;obtain ⟨rfl,rfl⟩:=hok;cases hb;exact ⟨r,rfl,hxr,hbl⟩
     ·cases hb
    ·cases hb
   ·cases hb
   ·cases hb
  have hold0:old=none→∃sz,L.ev x = .pv (.nilS sz)∧es = []:=by
   intro hq;subst hq;unfold appBase at hb;split at hb
   ·split at hb
    ·split at hb<;>cases hb
    ·cases hb
   ·rename_i sz hxr;cases hb;exact ⟨sz,hxr,rfl⟩
   ·cases hb
  refine ⟨sem1_of hdst fun L' hd' F a w hev hfp hnew hi=>?_,fun q hq=>?_,fun r hr=>?_⟩
  ·obtain ⟨m1,m2⟩:=hnew (.loc d) (by
    cases ho':old with
    |none=>simp [news,unName]
    |some q=>
     obtain ⟨r0,rfl,_,hb0⟩:=hold q ho';have hne:r0≠.loc d:=fun e=>by rw [e,n1] at hb0;cases hb0
     have hne':r0.eqb (.loc d)=false:=by
      cases h:r0.eqb (.loc d) with
      |false=>rfl
      |true=>exact absurd ((Nm.eqb_iff _ _).1 h) hne
     simp [news,unName,hne'])
   -- what is appended to
   have hbase:∃v0 cells,a.eval x=v0∧w.ownsRow 0 e i.size v0 es.length cells∧(∀r0,old.map (·.1)=some r0→hd' r0 = .row v0∧r0≠.loc d)∧(old.map (·.1)=none→v0.ownBlock=none)∧(∀(k:Nat) (el:List PV),es[k]?=some el→el.length=i.size)∧
    (∀(k j:Nat) (el:List PV) (c:PV) (u:Value),es[k]?=some el→el[j]?=some c→cells[k*i.size+j]?=some u→RepP w F c u)∧(∀u∈cells,u.oneCell'=true):=by
    cases ho':old with
    |none=>
     obtain ⟨sz,h1,rfl⟩:=hold0 ho';have:=hev x hmx;rw [h1] at this;generalize a.eval x=v0 at this;cases this with
     |pv _ _ hp=>cases hp with
      |nilS=>exact ⟨_,[],rfl,World.ownsRow_nil w 0 e i.size,by simp,fun _=>rfl,fun k el h=>by simp at h,fun k j el c u h=>by simp at h,by simp⟩
    |some q=>
     obtain ⟨r0,rfl,h1,h2⟩:=hold q ho';have hblk:=hi.blocks r0;rw [hfp (r0,.row e i.size es) (by simp [ho'])] at hblk;obtain ⟨v0,cells,q1,q2,q3,q4,q5⟩:=hblk;have hv:=hev x hmx;rw [h1] at hv;have hp:a.eval x=v0:=by cases hv with|own _ _ _ hp=>exact hp v0 q1
     refine ⟨v0,cells,hp,q2,fun r hr=>?_,fun h=>by simp at h,q3,q4,q5⟩;simp at hr;subst hr;exact ⟨q1,fun e=>by rw [e,n1] at h2;cases h2⟩
   obtain ⟨v0,cells,e0,hown,ho1,ho2,hel,hrp,h1c⟩:=hbase
   -- what is appended
   have htail:∃news,(es' = []∧news = []∧a.eval y = .slice none 0 0∨∃ad c,a.eval y = .slice (some ad) es'.length c)∧news.length=es'.length*i.size∧(∀ad n c,a.eval y = .slice (some ad) n c→∀j u,news[j]?=some u→w.cell? (ad.add j)=some u)∧(∀u∈news,u.oneCell'=true)∧
    (∀(k:Nat) (el:List PV),es'[k]?=some el→el.length=i.size)∧∀(k j:Nat) (el:List PV) (c:PV) (u:Value),es'[k]?=some el→el[j]?=some c→news[k*i.size+j]?=some u→RepP w F c u:=by
    have hv:=hev y hmy;unfold appTail at ht';split at ht'
    ·rename_i sz es0 hy;split at ht'
     ·rename_i hok;rw [Nat.beq_eq] at hok;subst hok;cases ht';rw [hy] at hv;generalize a.eval y=u at hv;cases hv with
      |pv _ _ hp=>exact tail_cells ok.one hp
     ·cases ht'
    ·rename_i sz hy;cases ht';rw [hy] at hv;generalize a.eval y=u at hv;cases hv with
     |pv _ _ hp=>cases hp with
      |nilS=>exact ⟨[],.inl ⟨rfl,rfl,rfl⟩,by simp,fun ad n c h=>(by cases h),by simp,fun k el h=>(by simp at h),fun k j el c u h=>(by simp at h)⟩
    ·cases ht'
   obtain ⟨nws,t1,t2,t3,t4,t5,t6⟩:=htail;have hrun:∃v' w',(Builtin.append_ #[t,t] o.type #[v0,a.eval y]).run C.P w = .ok v' w'∧w'.ownsRow 0 e i.size v' (es.length+es'.length) (cells++nws)∧w.grownBy w' v0.ownBlock∧(∀k,v'.ownBlock=some k→w.heap.size≤k∨v0.ownBlock=some k):=by
    rcases t1 with ⟨rfl,rfl,e2⟩|⟨ad,cp,e2⟩
    ·rw [e2];exact ⟨v0,w,run_append_owned_none w 0 t o.type e inf i.size (sliceE_ok hT he) j1 v0 es.length cells hown,by simpa using hown,⟨rfl,rfl,rfl,Nat.le_refl _,fun _ _ _=>rfl⟩,fun k hk=>.inr hk⟩
    ·rw [e2];obtain ⟨v',w',r1,r2,r3,r4⟩:=run_append_own (P:=C.P) w 0 t o.type e inf z i.size i.bytes (sliceE_ok hT he) j1 j4 j2 j3 hzs ok.one v0 es.length cells hown ad es'.length cp nws t2 (t3 ad _ cp e2) t4 (by simp only [maxLen];omega) hp.1 (Nat.zero_le _);refine ⟨v',w',r1,r2,r3,fun k hk=>?_⟩;rcases hown.2 with ⟨rfl,hn0⟩|⟨g,cap,cur,rfl,_,hg,hnc,hcm,hcs,htk⟩
     ·by_cases hm:es'.length=0
      ·have:=r4.2 ⟨rfl,hm⟩;subst this;simp [Value.ownBlock] at hk
      ·have:=run_append_nil (P:=C.P) w t o.type e inf z (sliceE_ok hT he) j1 j4 ad es'.length cp nws (by rw [j2];exact t2) (t3 ad _ cp e2) (by omega) (by omega) (by rw [j3];have:=hp.1;rw [hn0,Nat.zero_add] at this;omega);rw [r1] at this;injection this with f1 f2
       subst f1;simp only [Value.ownBlock,Option.some.injEq] at hk;exact .inl (by omega)
     ·by_cases hroom:es.length+es'.length≤cap
      ·have hfit:es.length*inf.size+nws.length≤cur.size:=(by rw [t2,hcs,j2,←Nat.add_mul];exact Nat.mul_le_mul_right _ hroom);have:=run_append_room (P:=C.P) w t o.type e inf (sliceE_ok hT he) j1 g es.length cap cur hg ad es'.length cp nws (by rw [j2];exact t2) (t3 ad _ cp e2) t4 hroom hfit;rw [r1] at this;injection this with f1 f2
       subst f1;exact .inr hk
      ·have holds:∀j u,cells[j]?=some u→w.cell? ((⟨g,0,none⟩:Addr).add j)=some u:=hown.cells (g:=g) rfl;have:=run_append_grow (P:=C.P) w t o.type e inf z (sliceE_ok hT he) j1 j4 ⟨g,0,none⟩ es.length cap cells (by rw [j2];exact hown.1) holds ad es'.length cp nws (by rw [j2];exact t2) (t3 ad _ cp e2) (by omega) (by omega) (growslice_fits (by omega) (by rw [j3];exact hp.1));rw [r1] at this;injection this with f1 f2
       subst f1;simp only [Value.ownBlock,Option.some.injEq] at hk;exact .inl (by omega)
   obtain ⟨v',w',r1,r2,r3,r4⟩:=hrun;have hlen1:=hown.1;obtain ⟨hd'',k1,k2⟩:=inv_row hi (r:=.loc d) (by simp) m1 m2 (old.map (·.1)) v0 v' ho1 ho2 r3 e i.size (es++es') (cells++nws) (by rw [List.length_append];exact r2) (fun k el hk=>by
    rw [List.getElem?_append] at hk;split at hk
    ·exact hel k el hk
    ·exact t5 _ el hk) (fun k j el c u a1 a2 a3=>by
    rw [List.getElem?_append] at a1;split at a1
    ·rename_i hlt;have hj:j<i.size:=(by rw [←hel k el a1];exact (List.getElem?_eq_some_iff.1 a2).1);rw [List.getElem?_append,if_pos (by
      rw [hlen1]
      calc k*i.size+j<k*i.size+i.size:=by omega
       _=(k+1)*i.size:=by rw [Nat.add_mul,Nat.one_mul]
       _≤es.length*i.size:=Nat.mul_le_mul_right _ hlt)] at a3
     exact hrp k j el c u a1 a2 a3
    ·rename_i hge;have hge:es.length≤k:=(by omega);have hmul:es.length*i.size≤k*i.size:=Nat.mul_le_mul_right _ hge;rw [List.getElem?_append,if_neg (by rw [hlen1];omega),hlen1,show k*i.size+j-es.length*i.size=(k-es.length)*i.size+j by rw [Nat.sub_mul];omega] at a3;exact t6 _ j el c u a1 a2 a3) (fun u hu=>by
    rcases List.mem_append.1 hu with h|h
    ·exact h1c u h
    ·exact t4 u h) r4
   refine ⟨v',w',hd'',F,.inl ?_,k1,k2⟩;simp [execOp,ho,resolve,hc,hx',ht,invoke,builtin,e0,r1]
  ·cases ho':old with
   |none=>rw [ho'] at hq;simp at hq
   |some q'=>
    rw [ho'] at hq;obtain ⟨r0,rfl,_,hb0⟩:=hold q' ho';simp at hq;subst hq;exact hb0
  ·have:r = .loc d:=by
    cases ho':old with
    |none=>rw [ho'] at hr;simpa [news,unName] using hr
    |some q=>
     rw [ho'] at hr;obtain ⟨r0,rfl,_,hb0⟩:=hold q ho';simp only [news,unName,Option.map_some,List.singleton_append,List.map_cons,List.map_nil] at hr;obtain ⟨h1,h2⟩:=List.mem_filter.1 hr;simp at h1 h2;rcases h1 with rfl|rfl
     ·exact absurd ((Nm.eqb_iff _ _).2 rfl) (by simpa using h2)
     ·rfl
   subst this;exact ⟨n1,n2,by simp [mayMake1,hd,ho,makes,hc]⟩
 ·trivial
def bndA (L:LS)(dflt:Int):Option Operand→Option Int
 |none=>some dflt
 |some x=>match L.ev x with
  |.pv (.val (.int _ i))=>some i
  |_=>none
theorem bndA_rep {L:LS}{d r:Int}{q:Option Operand}(h:bndA L d q=some r){w:World}{F:Nat→Prop}{hd:Nm→Hd}{a:Act}(hev:∀x,q=some x→Rep w F hd (L.ev x) (a.eval x)):(q=none∧r=d)∨∃k,q.map a.eval=some (.int k r):=by
 cases q with
 |none=>simp only [bndA,Option.some.injEq] at h;exact .inl ⟨rfl,h.symm⟩
 |some x=>
  have hx:=hev x rfl;simp only [bndA] at h;split at h
  ·rename_i k i hi;cases h;rw [hi] at hx;exact .inr ⟨k,by rw [Option.map_some,bool_of hx]⟩
  ·cases h
theorem run_bounds {P:Program}{isSlice:Bool}{len cap:Nat}{lo hi:Option Value}{l h:Int}(w:World)(h1:(lo=none∧l=0)∨∃k,lo=some (.int k l))(h2:(hi=none∧h=len)∨∃k,hi=some (.int k h))(h0:0≤l)(h3:l≤h)(h4:h≤len)(h5:len≤cap) :
 (Instr.sliceBounds isSlice len cap lo hi none).run P w = .ok (l.toNat,h.toNat,cap) w:=by
 have e:(h.toNat:Int)=h:=Int.toNat_of_nonneg (by omega);rcases h1 with ⟨rfl,rfl⟩|⟨k1,rfl⟩<;>rcases h2 with ⟨rfl,rfl⟩|⟨k2,rfl⟩
 ·simp [Instr.sliceBounds]
 ·have h6:h≤(cap:Int):=by omega
  simp [Instr.sliceBounds,Instr.sliceBound,asIntOf,h3,h6]
 ·simp [Instr.sliceBounds,Instr.sliceBound,asIntOf,h0,h3]
 ·have h6:h≤(cap:Int):=by omega
  have h7:0≤h:=by omega
  simp [Instr.sliceBounds,Instr.sliceBound,asIntOf,h0,h6,h7,e,h3]
def stSlice (T:TT)(L:LS)(t:Nat)(x:Operand)(lo hi mx:Option Operand):SR:=match mx with
 |some _=>.stop
 |none=>match L.ev x with
  |.pv (.val (.string s))=>if isStrT T t=true then match bndA L 0 lo,bndA L s.size hi with
   |some a,some b=>.act [] ⟨.pv (.val (.string (s.extract a.toNat b.toNat))),[]⟩ (0≤a∧a≤b∧b≤s.size)
   |_,_=>.stop
   else .stop
  |.pv (.ro sz es)=>match sliceE T t with
   |some e=>match lkT T e with
    |some i=>if Nat.beq i.size sz=true then match bndA L 0 lo,bndA L es.length hi with
     |some a,some b=>.act [] ⟨.pv (.ro sz ((es.take b.toNat).drop a.toNat)),[]⟩ (0≤a∧a≤b∧b≤es.length)
     |_,_=>.stop
     else .stop
    |none=>.stop
   |none=>.stop
  |_=>.stop
theorem stSlice_ok {C:Ctx}{T:TT}(hT:TOk C.P T){o:Oper}{L:LS}{t:TypeId}{x:Operand}{lo up mx:Option Operand}(hdst:∀d,o.dst=some d→d<C.fn.ntmps)(ho:o.op = .slice t x lo up mx):SRok C o L (stSlice T L t x lo up mx):=by
 unfold stSlice;cases mx with
 |some m=>trivial
 |none=>
  dsimp only;have hx:x∈o.op.operands.toList:=by simp [ho,Op.operands]
  have hlo:∀y,lo=some y→y∈o.op.operands.toList:=fun y hy=>by subst hy;simp [ho,Op.operands]
  have hhi:∀y,up=some y→y∈o.op.operands.toList:=fun y hy=>by subst hy;simp [ho,Op.operands]
  split
  ·rename_i s hs;split
   ·rename_i hst;split
    ·rename_i l h hl hh;refine .read fun hp=>sem1_read hdst fun L' hd F a w hev hfp hi=>⟨_,?_,rep_val rfl⟩;have h1:=hev x hx;rw [hs] at h1;have b1:=bndA_rep hl (fun y hy=>hev y (hlo y hy));have b2:=bndA_rep hh (fun y hy=>hev y (hhi y hy));have hb:=run_bounds (P:=C.P) (isSlice:=false) (len:=s.size) (cap:=s.size) (lo:=lo.map a.eval) (hi:=up.map a.eval) (l:=l) (h:=h) w (b1.imp (fun q=>⟨by rw [q.1];rfl,q.2⟩) id) (b2.imp (fun q=>⟨by rw [q.1];rfl,q.2⟩) id) hp.1 hp.2.1 hp.2.2 (Nat.le_refl _);simp [execOp,ho,bool_of h1,Instr.sliceAt,Instr.slice,run_underlying (isStrT_ok hT hst),hb]
    ·trivial
   ·trivial
  ·rename_i sz es hs;split
   ·rename_i e he;split
    ·rename_i i hli;split
     ·rename_i hsz;rw [Nat.beq_eq] at hsz;split
      ·rename_i l h hl hh;refine .read fun hp=>sem1_read hdst fun L' hd F a w hev hfp hi=>?_;have h1:=hev x hx;rw [hs] at h1;generalize hz:a.eval x=z at h1;have b1:=bndA_rep hl (fun y hy=>hev y (hlo y hy));have b2:=bndA_rep hh (fun y hy=>hev y (hhi y hy));obtain ⟨inf,zv,j1,j2,_⟩:=(lkT_ok hT hli).info;cases h1 with
       |pv _ _ hp'=>cases hp' with
        |ro _ _ A cap u hA hc hm hlen ha hr=>
         have hb:=run_bounds (P:=C.P) (isSlice:=true) (len:=es.length) (cap:=cap) (lo:=lo.map a.eval) (hi:=up.map a.eval) (l:=l) (h:=h) w (b1.imp (fun q=>⟨by rw [q.1];rfl,q.2⟩) id) (b2.imp (fun q=>⟨by rw [q.1];rfl,q.2⟩) id) hp.1 hp.2.1 hp.2.2 hc;refine ⟨.slice (if cap=l.toNat then A else A.map (·.add (l.toNat*i.size))) (h.toNat-l.toNat) (cap-l.toNat),?_,.pv _ _ ?_⟩
         ·simp [execOp,ho,hz,Instr.sliceAt,Instr.slice,run_underlying (sliceE_ok hT he),hb,sizeOf,typeInfo,j1,j2]
         ·have hel:((es.take h.toNat).drop l.toNat).length=h.toNat-l.toNat:=(by simp;omega);have hget:∀k el,((es.take h.toNat).drop l.toNat)[k]?=some el→es[l.toNat+k]?=some el:=fun k el hk=>by
           rw [List.getElem?_drop,List.getElem?_take] at hk;split at hk
           ·exact hk
           ·cases hk
          rw [←hel];refine .ro sz _ _ (cap-l.toNat) (fun k j=>u (l.toNat+k) j) (fun hn=>?_) (by rw [hel];omega) (by rw [hel];omega) (fun k el hk=>hlen _ el (hget k el hk)) (fun hne=>?_) (fun k j el c hk hj=>hr _ j el c (hget k el hk) hj)
          ·split at hn
           ·rename_i e;omega
           ·cases A with
            |none=>have:=hA rfl;omega
            |some ad=>simp at hn
          ·have hlt:l.toNat<h.toNat:=by
            have:((es.take h.toNat).drop l.toNat).length≠0:=fun e=>hne (List.eq_nil_of_length_eq_zero e);omega
           have hne':es≠[]:=fun e=>by subst e;simp at hp;omega
           obtain ⟨ad,rfl,hs1,hF,hcell⟩:=ha hne';obtain ⟨g,q,sp⟩:=ad;obtain rfl:sp=none:=hs1;rw [if_neg (by omega)];refine ⟨⟨g,q+l.toNat*i.size,none⟩,by simp [add_at],rfl,hF,fun k j el c hk hj=>?_⟩;have:=hcell _ j el c (hget k el hk) hj;rw [add_at] at this ⊢;rw [←this];congr 2;rw [hsz,Nat.add_mul];omega
      ·trivial
     ·trivial
    ·trivial
   ·trivial
  ·trivial
end Go.Abs
namespace Go.Abs
open Go.RowKit
def stepOp (T:TT)(W:List Nat)(o:Oper)(L:LS):SR:=match o.op with
 |.move x=>stMove L x
 |.assign x=>stMove L x
 |.pick c x y=>stPick L c x y
 |.binOp op t x y _=>stBin T L op t x y
 |.unOp op _ x=>stUn L op x
 |.convert s d x=>stConv T L s d x
 |.box t x=>stBox L o.dst t x
 |.alloc t=>stAlloc T L o.dst t
 |.load t x=>stLoad T L t x
 |.store t x y=>stStore T L t x y
 |.fieldAddr t x f=>stFieldAddr T L t x f
 |.field t x f=>stField T L t x f
 |.extract x j=>stExtract L x j
 |.nilCheck x=>stNilCheck L x
 |.makeFunc f l l'=>stMakeFunc L f l l'
 |.indexAddr t x y=>stIndexAddr T L t x y
 |.index t x y=>stIndex T L t x y
 |.call { callee:=.builtin .len,args:=⟨[x]⟩,argTypes:=⟨[t]⟩ }=>stLen T L t x
 |.call { callee:=.builtin .append,args:=⟨[x,y]⟩,argTypes:=⟨[t,t']⟩ }=>if Nat.beq t t'=true then stAppend T L o.dst t x y else .stop
 |.build t parts=>stBuild T L t parts.toList
 |.buildSlice t n parts=>stBuildSlice T W L o.dst t n parts.toList
 |.slice t x lo up mx=>stSlice T L t x lo up mx
 |_=>.stop
theorem stepOp_ok {C:Ctx}{T:TT}(hT:TOk C.P T){W:List Nat}{o:Oper}{L:LS}(hdst:∀d,o.dst=some d→d<C.fn.ntmps):SRok C o L (stepOp T W o L):=by
 unfold stepOp;split
 ·exact stMove_ok hdst (.inl ‹_›)
 ·exact stMove_ok hdst (.inr ‹_›)
 ·exact stPick_ok hdst ‹_›
 ·exact stBin_ok hT hdst ‹_›
 ·exact stUn_ok hdst ‹_›
 ·exact stConv_ok hT hdst ‹_›
 ·exact stBox_ok hdst ‹_›
 ·exact stAlloc_ok hT hdst ‹_›
 ·exact stLoad_ok hT hdst ‹_›
 ·exact stStore_ok hT hdst ‹_›
 ·exact stFieldAddr_ok hT hdst ‹_›
 ·exact stField_ok hT hdst ‹_›
 ·exact stExtract_ok hdst ‹_›
 ·exact stNilCheck_ok hdst ‹_›
 ·exact stMakeFunc_ok hdst ‹_›
 ·exact stIndexAddr_ok hT hdst ‹_›
 ·exact stIndex_ok hT hdst ‹_›
 ·exact stLen_ok hT hdst ‹_› rfl rfl rfl
 ·split
  ·rename_i e;rw [Nat.beq_eq] at e;subst e;exact stAppend_ok hT hdst ‹_› rfl rfl rfl
  ·trivial
 ·exact stBuild_ok hT hdst ‹_›
 ·exact stBuildSlice_ok hT hdst ‹_›
 ·exact stSlice_ok hT hdst ‹_›
 ·trivial
inductive Conf where
 |top (todo:List Item) (L:LS)
 |reg (ops:Array Oper) (draw:Bool) (i:Nat) (opl:List Oper) (done:List Trace) (todo:List Item) (L:LS)
def markT:Trace:=⟨1000000,[],[]⟩
def unmark:List Trace→Option (List Trace)
 |m::rest=>if Nat.beq m.i 1000000=true then some rest else none
 |[]=>none
def statAt (ops:Array Oper)(i j:Nat):Bool:=match ops[i]?,ops[j]? with
 |some p,some o=>boundB o i || Oper.apart ops p o
 |_,_=>false
def statOk (ops:Array Oper):Bool:=(List.range ops.size).all fun j=>(List.range j).all fun i=>statAt ops i j
def Triv (ops:Array Oper)(x:Trace):Prop:=x.rd = []∧x.wr = []∧∀p,ops[x.i]?=some p→mayMake1 p = []
def pairS (ops:Array Oper)(x:Trace)(o:Oper)(y:Trace)(vm:List Nm):Bool:=
 (o.after.any fun e=>e.on == x.i&&Region.binds .any e) ||
 match ops[x.i]? with
 |some p=>Oper.apart ops p o&&disjoint x.wr (y.rd++y.wr)&&disjoint y.wr x.rd&&disjoint (mayMake1 p) vm
 |none=>false
theorem pairS_ok {ops:Array Oper}{x y:Trace}{o:Oper}{vm:List Nm}(h:pairS ops x o y vm=true):pairOk ops x o y vm=true:=if_pos h
theorem pairS_all {ops:Array Oper}{y:Trace}{o:Oper}{vm:List Nm}{l:List Trace}(h:(l.all fun x=>pairS ops x o y vm)=true):(l.all fun x=>pairOk ops x o y vm)=true:=by
 rw [List.all_eq_true] at h ⊢;exact fun x hx=>pairS_ok (h x hx)
def Go (C:Ctx):Conf→Prop
 |.top todo L=>GoS C todo L
 |.reg ops draw i opl done todo L=>(∀j,opl[j]?=ops[i+j]?)→match unmark done with
  |none=>RT C ops draw (List.range' i opl.length) done L (GoS C todo)
  |some rest=>statOk ops=true→∀D:List Trace,(∀x∈D,x.i<i∧(x∈rest∨Triv ops x))→RT C ops draw (List.range' i opl.length) D L (GoS C todo)
def mayMakeO:List Oper→List Nm
 |[]=>[]
 |o::l=>mayMake1 o++mayMakeO l
theorem mayMakeO_eq {ops:Array Oper}:∀(opl:List Oper) (i:Nat),(∀j,opl[j]?=ops[i+j]?)→mayMake ops (List.range' i opl.length)=mayMakeO opl
 |[],i,_=>rfl
 |o::l,i,h=>by
  have h0:=h 0;simp only [List.getElem?_cons_zero,Nat.add_zero] at h0;simp only [List.length_cons,List.range'_succ,mayMake,←h0,mayMakeO];rw [mayMakeO_eq l (i+1) fun j=>by have:=h (j+1);simpa [Nat.add_assoc,Nat.add_comm 1 j] using this]
theorem rt_plain {C:Ctx}{ops:Array Oper}{K:LS→Prop}:∀(l:List Nat) (done done':List Trace) (L:LS),RT C ops false l done L K→RT C ops false l done' L K
 |[],_,_,_,h=>h
 |i::rest,done,done',L,h=>by
  rcases h with ⟨o,L1,y,vm,ho,h1,hd,hr⟩|h
  ·exact .inl ⟨o,L1,y,vm,ho,h1,fun e=>Bool.noConfusion e,rt_plain rest _ _ L1 hr⟩
  ·exact .inr h
def mkOff (ops:Array Oper)(x:Trace)(vm:List Nm):Bool:=match vm with
 |[]=>true
 |_::_=>match ops[x.i]? with
  |some p=>disjoint (mayMake1 p) vm
  |none=>false
def calmP (ops:Array Oper)(x:Trace)(o:Oper)(y:Trace)(vm:List Nm):Bool:=if (disjoint x.wr (y.rd++y.wr)&&(disjoint y.wr x.rd&&mkOff ops x vm))=true then true else boundC ops o x.i
def calmPD (ops:Array Oper)(x:Trace)(o:Oper)(y:Trace)(vm:List Nm):Bool:=if (disjoint x.wr (y.rd++y.wr)&&(disjoint y.wr x.rd&&mkOff ops x vm))=true then true else boundN ops 5 o x.i
theorem calmP_D {ops:Array Oper}{x y:Trace}{o:Oper}{vm:List Nm}(h:calmP ops x o y vm=true):calmPD ops x o y vm=true:=by
 unfold calmP at h;unfold calmPD;split
 ·rfl
 ·rename_i hn;rw [if_neg hn] at h;exact boundC_N h
def keepT (o:Oper)(y:Trace):Bool:=match y.rd,y.wr,mayMake1 o with
 |[],[],[]=>false
 |_,_,_=>true
def nexts (o:Oper)(draw:Bool)(y:Trace)(done:List Trace):List Trace:=match draw with
 |true=>match unmark done with
  |some rest=>if keepT o y=true then markT::y::rest else markT::rest
  |none=>y::done
 |false=>[]
def okPair (ops:Array Oper)(draw:Bool)(done:List Trace)(o:Oper)(y:Trace)(vm:List Nm)(opl:List Oper):Bool:=match draw with
 |false=>true
 |true=>match unmark done with
  |some rest=>(rest.all fun x=>calmP ops x o y vm)&&disjoint (mayMakeO opl) vm
  |none=>Nat.blt y.i 1000000&&((done.all fun x=>pairS ops x o y vm)&&disjoint (mayMakeO opl) vm)
def okPairD (ops:Array Oper)(draw:Bool)(done:List Trace)(o:Oper)(y:Trace)(vm:List Nm)(opl:List Oper):Bool:=match draw with
 |false=>true
 |true=>match unmark done with
  |some rest=>(rest.all fun x=>calmPD ops x o y vm)&&disjoint (mayMakeO opl) vm
  |none=>Nat.blt y.i 1000000&&((done.all fun x=>pairS ops x o y vm)&&disjoint (mayMakeO opl) vm)
theorem okPair_D {ops:Array Oper}{draw:Bool}{done:List Trace}{o:Oper}{y:Trace}{vm:List Nm}{opl:List Oper}(h:okPair ops draw done o y vm opl=true):okPairD ops draw done o y vm opl=true:=by
 unfold okPair at h;unfold okPairD;cases draw with
 |false=>rfl
 |true=>
  simp only at h ⊢;cases hu:unmark done with
  |none=>rw [hu] at h;exact h
  |some rest=>
   rw [hu] at h;simp only [Bool.and_eq_true] at h ⊢;refine ⟨?_,h.2⟩;have h1:=h.1;rw [List.all_eq_true] at h1 ⊢;exact fun x hx=>calmP_D (h1 x hx)
theorem disjoint_nil (l:List Nm):disjoint l []=true:=by
 induction l with
 |nil=>rfl
 |cons x l ih=>simp [disjoint,notIn,ih]
theorem stat_pair {ops:Array Oper}(h:statOk ops=true){i j:Nat}{o:Oper}(ho:ops[j]?=some o)(hij:i<j):∃p,ops[i]?=some p∧(boundB o i || Oper.apart ops p o)=true:=by
 have hj:j<ops.size:=(Array.getElem?_eq_some_iff.1 ho).1;unfold statOk at h;rw [List.all_eq_true] at h;have h1:=h j (List.mem_range.2 hj);rw [List.all_eq_true] at h1;have h2:=h1 i (List.mem_range.2 hij);unfold statAt at h2;split at h2
 ·rename_i p o' hp ho';rw [ho] at ho';cases ho';exact ⟨p,hp,h2⟩
 ·cases h2
theorem calm_pair {ops:Array Oper}(h:statOk ops=true){x y:Trace}{o:Oper}{j:Nat}{vm:List Nm}(ho:ops[j]?=some o)(hx:x.i<j){rest:List Trace}(hr:x∈rest∨Triv ops x)(hc:(rest.all fun x=>calmPD ops x o y vm)=true):pairOk ops x o y vm=true:=by
 obtain ⟨p,hp,hs⟩:=stat_pair h ho hx;unfold pairOk;rw [hp];cases hb:boundN ops 5 o x.i with
 |true=>exact ite_self _
 |false=>
  have hb0:boundB o x.i=false:=by
   cases hq:boundB o x.i with
   |true=>rw [boundB_N hq 5] at hb;cases hb
   |false=>rfl
  rw [hb0,Bool.false_or] at hs;unfold boundB at hb0;rw [hb0,Bool.false_or];refine if_pos ?_;simp only [hs,Bool.true_and];rcases hr with hr|⟨t1,t2,t3⟩
  ·rw [List.all_eq_true] at hc;have:=hc x hr;unfold calmPD at this;rw [hb] at this;simp only [Bool.and_eq_true] at this ⊢;split at this
   case isFalse=>cases this
   rename_i hq;have this:=hq;refine ⟨⟨this.1,this.2.1⟩,?_⟩;have h3:=this.2.2;unfold mkOff at h3;split at h3
   ·exact disjoint_nil _
   ·rw [hp] at h3;exact h3
  ·rw [t1,t2,t3 p hp,disjoint_nil];rfl
theorem keep_not {o:Oper}{y:Trace}(h:¬keepT o y=true):y.rd = []∧y.wr = []∧mayMake1 o = []:=by
 unfold keepT at h;split at h
 ·exact ⟨‹_›,‹_›,‹_›⟩
 ·exact absurd rfl h
theorem reg_one {C:Ctx}{ops:Array Oper}{draw:Bool}{i:Nat}{o:Oper}{opl:List Oper}{done:List Trace}{todo:List Item}{L L1:LS}{y:Trace}{vm:List Nm}(hy:y.i=i)(h1:Step1 C ops i o L L1 y vm)
 (hok:okPairD ops draw done o y vm opl=true) (h:Go C (.reg ops draw (i+1) opl (nexts o draw y done) todo L1)):Go C (.reg ops draw i (o::opl) done todo L):=by
 intro hl;have h0:=hl 0;simp only [List.getElem?_cons_zero,Nat.add_zero] at h0;have hl':∀j,opl[j]?=ops[i+1+j]?:=fun j=>by have:=hl (j+1);simpa [Nat.add_assoc,Nat.add_comm 1 j] using this
 have hr:=h hl';cases draw with
 |false=>
  have hu:unmark (nexts o false y done)=none:=rfl;rw [hu] at hr;simp only at hr;have key:∀D:List Trace,RT C ops false (List.range' i (o::opl).length) D L (GoS C todo):=fun D=>by
   simp only [List.length_cons,List.range'_succ,RT];exact .inl ⟨o,_,_,_,h0.symm,h1,fun e=>Bool.noConfusion e,rt_plain _ _ _ _ hr⟩
  cases unmark done with
  |none=>exact key _
  |some rest=>exact fun _ D _=>key D
 |true=>
  cases hu:unmark done with
  |none=>
   simp only [okPairD,hu,Bool.and_eq_true,Nat.blt_eq] at hok;have hne:¬Nat.beq y.i 1000000=true:=fun e=>by rw [Nat.beq_eq] at e;omega
   have hn:nexts o true y done=y::done:=(by simp only [nexts,hu]);rw [hn] at hr;have hu2:unmark (y::done)=none:=(by simp only [unmark,if_neg hne]);rw [hu2] at hr;simp only at hr ⊢;simp only [List.length_cons,List.range'_succ,RT];refine .inl ⟨o,_,_,_,h0.symm,h1,fun _=>?_,hr⟩;rw [mayMakeO_eq opl (i+1) hl'];exact ⟨pairS_all hok.2.1,hok.2.2⟩
  |some rest=>
   simp only [okPairD,hu,Bool.and_eq_true] at hok;intro hst D hD;have hall:(D.all fun x=>pairOk ops x o y vm)=true:=by
    rw [List.all_eq_true];intro x hx;exact calm_pair hst h0.symm (hD x hx).1 (hD x hx).2 hok.1
   have hgo:RT C ops true (List.range' (i+1) opl.length) (y::D) L1 (GoS C todo):=by
    by_cases hk:keepT o y=true
    ·have hn:nexts o true y done=markT::y::rest:=(by simp only [nexts,hu,hk,if_true]);rw [hn] at hr;refine hr hst (y::D) fun x hx=>?_;rcases List.mem_cons.1 hx with rfl|hx
     ·exact ⟨by omega,.inl (by simp)⟩
     ·exact ⟨by have:=(hD x hx).1;omega,(hD x hx).2.imp (fun h=>by simp [h]) id⟩
    ·have hn:nexts o true y done=markT::rest:=(by simp only [nexts,hu,hk];rfl);rw [hn] at hr;obtain ⟨k1,k2,k3⟩:=keep_not hk;refine hr hst (y::D) fun x hx=>?_;rcases List.mem_cons.1 hx with rfl|hx
     ·refine ⟨by omega,.inr ⟨k1,k2,fun p hp=>?_⟩⟩;rw [hy,←h0] at hp;cases hp;exact k3
     ·exact ⟨by have:=(hD x hx).1;omega,(hD x hx).2⟩
   simp only [List.length_cons,List.range'_succ,RT];refine .inl ⟨o,_,_,_,h0.symm,h1,fun _=>⟨hall,?_⟩,hgo⟩;rw [mayMakeO_eq opl (i+1) hl'];exact hok.2
theorem reg_step {C:Ctx}{ops:Array Oper}{draw:Bool}{i:Nat}{o:Oper}{opl:List Oper}{done:List Trace}{todo:List Item}{L:LS}{fp:List (Nm × Blk)}{A:Actn}(hg:guardOf ops o L=some true)
 (h1:Sem1 C o L.ev fp A) (h2:∀q∈fp,L.blk q.1=some q.2) (h3:∀r∈news fp A.ups,L.blk r=none∧L.Fresh r∧r∈mayMake1 o)
 (hok:okPair ops draw done o ⟨i,fp.map (·.1),A.ups.map (·.1)⟩ (A.v.ments++upsMents A.ups) opl=true)
 (h:Go C (.reg ops draw (i+1) opl (nexts o draw ⟨i,fp.map (·.1),A.ups.map (·.1)⟩ done) todo (L.app o.dst A))):Go C (.reg ops draw i (o::opl) done todo L):=
 reg_one rfl (.inl ⟨hg,fp,A,h1,h2,h3,rfl,rfl,rfl⟩) (okPair_D hok) h
theorem reg_skip {C:Ctx}{ops:Array Oper}{draw:Bool}{i:Nat}{o:Oper}{opl:List Oper}{done:List Trace}{todo:List Item}{L:LS}(hg:guardOf ops o L=some false)
 (hok:okPair ops draw done o ⟨i,[],[]⟩ [] opl=true) (h:Go C (.reg ops draw (i+1) opl (nexts o draw ⟨i,[],[]⟩ done) todo (L.put o.dst (.tup [])))):Go C (.reg ops draw i (o::opl) done todo L):=
 reg_one rfl (.inr ⟨hg,rfl,rfl,rfl⟩) (okPair_D hok) h
theorem reg_stepN {C:Ctx}{ops:Array Oper}{i:Nat}{o:Oper}{opl:List Oper}{done:List Trace}{todo:List Item}{L:LS}(S:LS→Prop)(hs:StepN C ops o L S)
 (h:∀L1,S L1→Go C (.reg ops false (i+1) opl [] todo L1)):Go C (.reg ops false i (o::opl) done todo L):=by
 intro hl;have h0:=hl 0;simp only [List.getElem?_cons_zero,Nat.add_zero] at h0;have hl':∀j,opl[j]?=ops[i+1+j]?:=fun j=>by have:=hl (j+1);simpa [Nat.add_assoc,Nat.add_comm 1 j] using this
 have key:∀D:List Trace,RT C ops false (List.range' i (o::opl).length) D L (GoS C todo):=fun D=>by
  simp only [List.length_cons,List.range'_succ,RT];exact .inr ⟨trivial,o,S,h0.symm,hs,fun L1 h1=>h L1 h1 hl'⟩
 cases unmark done with
 |none=>exact key _
 |some rest=>exact fun _ D _=>key D
def dstOk (n:Nat)(o:Oper):Bool:=match o.dst with
 |some d=>Nat.blt d n
 |none=>true
theorem dstOk_spec {n:Nat}{o:Oper}(h:dstOk n o=true):∀d,o.dst=some d→d<n:=by
 intro d hd;simp only [dstOk,hd,Nat.blt_eq] at h;exact h
def stepTop (C:Ctx)(R:LS→Prop)(V:Conf→Prop)(L:LS):List Item→Prop
 |[]=>R L
 |.inBlock m::rest=>V (.top rest L)
 |.code c::rest=>match c with
  |.skip=>V (.top rest L)
  |.ret=>R L
  |.label _=>V (.top rest L)
  |.seq x y=>V (.top (.code x :: .code y::rest) L)
  |.block m x=>V (.top (.code x :: .inBlock m::rest) L)
  |.exit m=>match exitTo m rest with
   |some rest'=>V (.top rest' L)
   |none=>Go C (.top (.code (.exit m)::rest) L)
  |.cond c x y=>match L.ev c with
   |.pv (.val (.bool true))=>V (.top (.code x::rest) L)
   |.pv (.val (.bool false))=>V (.top (.code y::rest) L)
   |_=>Go C (.top (.code (.cond c x y)::rest) L)
  |.region id ops draw=>match draw with
   |false=>V (.reg ops false 0 ops.toList [] rest L)
   |true=>if (drawOk ops&&(mayMakeO ops.toList).all fun r=>L.freshB r)=true then V (.reg ops true 0 ops.toList [] rest L) else Go C (.top (.code (.region id ops true)::rest) L)
  |c=>Go C (.top (.code c::rest) L)
 |todo=>Go C (.top todo L)
def stepReg (C:Ctx)(T:TT)(W:List Nat)(n:Nat)(V:Conf→Prop)(ops:Array Oper)(draw:Bool)(i:Nat)(done:List Trace)(todo:List Item)(L:LS):List Oper→Prop
 |[]=>V (.top todo L)
 |o::opl=>match guardOf ops o L with
  |none=>Go C (.reg ops draw i (o::opl) done todo L)
  |some false=>if okPair ops draw done o ⟨i,[],[]⟩ [] opl=true then V (.reg ops draw (i+1) opl (nexts o draw ⟨i,[],[]⟩ done) todo (L.put o.dst (.tup []))) else Go C (.reg ops draw i (o::opl) done todo L)
  |some true=>match stepOp T W o L with
   |.stop=>Go C (.reg ops draw i (o::opl) done todo L)
   |.act fp A p=>if (dstOk n o&&okPair ops draw done o ⟨i,fp.map (·.1),A.ups.map (·.1)⟩ (A.v.ments++upsMents A.ups) opl)=true then
     p∧V (.reg ops draw (i+1) opl (nexts o draw ⟨i,fp.map (·.1),A.ups.map (·.1)⟩ done) todo (L.app o.dst A))
    else Go C (.reg ops draw i (o::opl) done todo L)
def stepV (C:Ctx)(T:TT)(W:List Nat)(n:Nat)(R:LS→Prop)(V:Conf→Prop):Conf→Prop
 |.top todo L=>stepTop C R V L todo
 |.reg ops draw i opl done todo L=>stepReg C T W n V ops draw i done todo L opl
def VC (C:Ctx)(T:TT)(W:List Nat)(n:Nat)(R:LS→Prop):Nat→Conf→Prop
 |0=>Go C
 |k+1=>stepV C T W n R (VC C T W n R k)
theorem stepTop_sound {C:Ctx}(hm:C.P.follows .mixedOrders=true){R:LS→Prop}(hR:∀L,R L→GoS C [] L∧∀k,GoS C (.code .ret::k) L){V:Conf→Prop}(hV:∀c,V c→Go C c){L:LS}{todo:List Item}(h:stepTop C R V L todo):GoS C todo L:=by
 unfold stepTop at h;split at h
 ·exact (hR _ h).1
 ·exact go_inBlock (hV _ h)
 ·split at h
  ·exact go_skip (hV _ h)
  ·exact (hR _ h).2 _
  ·exact go_label (hV _ h)
  ·exact go_seq (hV _ h)
  ·exact go_block (hV _ h)
  ·split at h
   ·exact go_exit ‹_› (hV _ h)
   ·exact h
  ·split at h
   ·exact go_cond (t:=true) ‹_› (hV _ h)
   ·exact go_cond (t:=false) ‹_› (hV _ h)
   ·exact h
  ·rename_i id ops draw;cases draw with
   |false=>
    have:=hV _ h (fun j=>by simp);simp only [unmark] at this;refine go_region ?_;rw [List.range_eq_range'];simpa using this
   |true=>
    simp only at h;split at h
    ·rename_i hc;simp only [Bool.and_eq_true,List.all_eq_true] at hc;have:=hV _ h (fun j=>by simp);simp only [unmark] at this;have he:=mayMakeO_eq (ops:=ops) ops.toList 0 (fun j=>by simp);refine go_regionD hm hc.1 (fun r hr=>hc.2 r ?_) ?_
     ·rw [←he];rw [List.range_eq_range'] at hr;simpa using hr
     ·rw [List.range_eq_range'];simpa using this
    ·exact h
  ·exact h
 ·exact h
theorem stepReg_sound {C:Ctx}{T:TT}(hT:TOk C.P T){W:List Nat}{n:Nat}(hn:C.fn.ntmps=n){V:Conf→Prop}(hV:∀c,V c→Go C c){ops:Array Oper}{draw:Bool}{i:Nat}{done:List Trace}{todo:List Item}{L:LS}{opl:List Oper}
 (h:stepReg C T W n V ops draw i done todo L opl):Go C (.reg ops draw i opl done todo L):=by
 unfold stepReg at h;split at h
 ·intro _;cases unmark done with
  |none=>exact hV _ h
  |some rest=>exact fun _ D _=>hV _ h
 ·split at h
  ·exact h
  ·split at h
   ·exact reg_skip ‹_› ‹_› (hV _ h)
   ·exact h
  ·rename_i hg;split at h
   ·exact h
   ·rename_i fp A p hs;split at h
    ·rename_i hc;simp only [Bool.and_eq_true] at hc;obtain ⟨hp,h⟩:=h;have hok:=stepOp_ok (C:=C) hT (W:=W) (L:=L) (fun d hd=>by rw [hn];exact dstOk_spec hc.1 d hd);rw [hs] at hok;obtain ⟨h1,h2,h3⟩:=hok hp;exact reg_step hg h1 h2 h3 hc.2 (hV _ h)
    ·exact h
theorem vc_sound {C:Ctx}{T:TT}(hT:TOk C.P T){W:List Nat}{n:Nat}(hn:C.fn.ntmps=n)(hm:C.P.follows .mixedOrders=true){R:LS→Prop}(hR:∀L,R L→GoS C [] L∧∀k,GoS C (.code .ret::k) L):∀(k:Nat) (c:Conf),VC C T W n R k c→Go C c
 |0,c,h=>h
 |k+1,.top todo L,h=>stepTop_sound hm hR (vc_sound hT hn hm hR k) h
 |k+1,.reg ops draw i opl done todo L,h=>stepReg_sound hT hn (vc_sound hT hn hm hR k) h
theorem go_drawn {C:Ctx}(hm:C.P.follows .mixedOrders=true){id:Nat}{ops:Array Oper}{rest:List Item}{L:LS}(hs:(drawOk ops&&statOk ops)=true)(hf:((mayMakeO ops.toList).all fun r=>L.freshB r)=true)
 (h:Go C (.reg ops true 0 ops.toList [markT] rest L)):Go C (.top (.code (.region id ops true)::rest) L):=by
 simp only [Bool.and_eq_true,List.all_eq_true] at hs hf;have:=h (fun j=>by simp);have hu:unmark [markT]=some []:=rfl;rw [hu] at this;have:=this hs.2 [] (fun x hx=>by cases hx);have he:=mayMakeO_eq (ops:=ops) ops.toList 0 (fun j=>by simp);refine go_regionD hm hs.1 (fun r hr=>hf r ?_) ?_
 ·rw [←he];rw [List.range_eq_range'] at hr;simpa using hr
 ·rw [List.range_eq_range'];simpa using this
def bigB:List Oper→Bool
 |_::_::_::_::_::_::_::_=>true
 |_=>false
def memN (x:Nat):List Nat→Bool
 |[]=>false
 |y::l=>if Nat.beq x y=true then true else memN x l
def firstId:Code→Option Nat
 |.region id _ _=>some id
 |.seq x _=>firstId x
 |.block _ x=>firstId x
 |.loop x=>firstId x
 |_=>none
def stepTopS (C:Ctx)(S:List Nat)(R:LS→Prop)(V:Conf→Prop)(L:LS)(todo:List Item):Prop:=match todo with
 |[]=>stepTop C R V L []
 |x::rest=>match x with
  |.code c=>match c with
   |.region id ops draw=>match draw with
    |true=>if memN id S=true then Go C (.top (.code (.region id ops true)::rest) L) else if bigB ops.toList=true then Go C (.top (.code (.region id ops true)::rest) L) else stepTop C R V L (.code (.region id ops true)::rest)
    |false=>if memN id S=true then Go C (.top (.code (.region id ops false)::rest) L) else stepTop C R V L (.code (.region id ops false)::rest)
   |.seq a b=>match S with
    |[]=>stepTop C R V L (.code (.seq a b)::rest)
    |_::_=>match firstId a with
     |some id=>if memN (id+1000) S=true then Go C (.top (.code (.seq a b)::rest) L) else stepTop C R V L (.code (.seq a b)::rest)
     |none=>stepTop C R V L (.code (.seq a b)::rest)
   |c=>stepTop C R V L (.code c::rest)
  |x=>stepTop C R V L (x::rest)
def stepVS (C:Ctx)(T:TT)(S W:List Nat)(n:Nat)(R:LS→Prop)(V:Conf→Prop):Conf→Prop
 |.top todo L=>stepTopS C S R V L todo
 |.reg ops draw i opl done todo L=>stepReg C T W n V ops draw i done todo L opl
def VCS (C:Ctx)(T:TT)(S W:List Nat)(n:Nat)(R:LS→Prop):Nat→Conf→Prop
 |0=>Go C
 |k+1=>stepVS C T S W n R (VCS C T S W n R k)
theorem stepTopS_sound {C:Ctx}{S:List Nat}(hm:C.P.follows .mixedOrders=true){R:LS→Prop}(hR:∀L,R L→GoS C [] L∧∀k,GoS C (.code .ret::k) L){V:Conf→Prop}(hV:∀c,V c→Go C c){L:LS}{todo:List Item}(h:stepTopS C S R V L todo):GoS C todo L:=by
 unfold stepTopS at h;split at h
 ·exact stepTop_sound hm hR hV h
 ·split at h
  ·split at h
   ·split at h
    ·split at h
     ·exact h
     ·split at h
      ·exact h
      ·exact stepTop_sound hm hR hV h
    ·split at h
     ·exact h
     ·exact stepTop_sound hm hR hV h
   ·split at h
    ·exact stepTop_sound hm hR hV h
    ·split at h
     ·split at h
      ·exact h
      ·exact stepTop_sound hm hR hV h
     ·exact stepTop_sound hm hR hV h
   ·exact stepTop_sound hm hR hV h
  ·exact stepTop_sound hm hR hV h
theorem vcs_sound {C:Ctx}{T:TT}(hT:TOk C.P T){S W:List Nat}{n:Nat}(hn:C.fn.ntmps=n)(hm:C.P.follows .mixedOrders=true){R:LS→Prop}(hR:∀L,R L→GoS C [] L∧∀k,GoS C (.code .ret::k) L):∀(k:Nat) (c:Conf),VCS C T S W n R k c→Go C c
 |0,c,h=>h
 |k+1,.top todo L,h=>stepTopS_sound hm hR (vcs_sound hT hn hm hR k) h
 |k+1,.reg ops draw i opl done todo L,h=>stepReg_sound hT hn (vcs_sound hT hn hm hR k) h
def zeroOk:List PV→Bool
 |[]=>true
 |.val v::l=>v.oneCell'&&zeroOk l
 |.nilS _::l=>zeroOk l
 |.ro _ _::_=>false
 |.opq _::_=>false
theorem zeroOk_spec {l:List PV}(h:zeroOk l=true):∀p∈l,(∃v,p = .val v∧v.oneCell'=true)∨∃sz,p = .nilS sz:=by
 induction l with
 |nil=>intro p hp;cases hp
 |cons x l ih=>
  intro p hp;cases x with
  |val v=>
   simp only [zeroOk,Bool.and_eq_true] at h;rcases List.mem_cons.1 hp with rfl|hp
   ·exact .inl ⟨v,rfl,h.1⟩
   ·exact ih h.2 p hp
  |nilS sz=>
   rcases List.mem_cons.1 hp with rfl|hp
   ·exact .inr ⟨sz,rfl⟩
   ·exact ih h p hp
  |ro sz es=>cases h
  |opq=>cases h
theorem tok1 {P:Program}{t:Nat}{i:TI}{z:Value}(ha:∀w,(isAgg t).run P w = .ok i.agg w)(hi:(P.info? t).map (fun i=>(i.zero,i.size,i.bytes))=some (some z,i.size,i.bytes))(hz:z.cells.toList=i.zero.map PV.raw)
 (hl:i.zero.length=i.size) (h0:zeroOk i.zero=true) (h1:0<i.size) (hu:match i.und with
 |.str fs=>∃d,P.underlying t=some (.struct d)∧d.toList.map (fun f=>(f.offset,f.type))=fs
 |.slice e=>P.underlying t=some (.slice e)
 |.int k=>P.underlying t=some (.int k)
 |.string=>P.underlying t=some .string
 |.bool=>P.underlying t=some .bool
 |.other=>True):TOk1 P t i:=by
 refine ⟨ha,?_,zeroOk_spec h0,h1,hu⟩;cases h:P.info? t with
 |none=>rw [h] at hi;cases hi
 |some inf=>
  rw [h] at hi;simp only [Option.map_some,Option.some.injEq,Prod.mk.injEq] at hi;exact ⟨inf,z,rfl,hi.2.1,hi.2.2,hi.1,hz,hl⟩
theorem tok_nil {P:Program}:TOk P []:=fun p hp=>by cases hp
theorem tok_cons {P:Program}{t:Nat}{i:TI}{T:TT}(h:TOk1 P t i)(hT:TOk P T):TOk P ((t,i)::T):=fun p hp=>by
 rcases List.mem_cons.1 hp with rfl|hp
 ·exact h
 ·exact hT p hp
end Go.Abs
namespace Go.Abs
open Go.RowKit
structure Fun (P:Program) (Gl:Granted) (g:FuncId) (args:List AV) (pre:List (Option Blk)) (v:AV) (post:List (Option Blk)):Prop where
 fn:∃fng,P.funcs[g]?=some fng∧(fng.name == "runtime.NumGoroutine")=false∧fng.body.isNone=false
 calls:ACalls P Gl g args pre v post
structure Rd (C:Ctx) (P:Program) (Gl:Granted) (T:TT) (n:Nat) (rs:List ResultVar) (v:AV) (post:List (Nm × Option Blk)):Prop where
 prog:C.P=P
 gl:C.Gl=Gl
 tok:TOk C.P T
 n:C.fn.ntmps=n
 mixed:C.P.follows .mixedOrders=true
 fin:∀(L:LS) (x:AV),resAV T L rs=some x→x.frz (lkH post) L.blk=v→subH L post→GoS C [] L∧∀k,GoS C (.code .ret::k) L
theorem fun_of {P:Program}{Gl:Granted}{f:FuncId}{fn:Func}{c:Code}{args:List AV}{pre post:List (Option Blk)}{v:AV}{T:TT}{n:Nat}{rs:List ResultVar}(hf:P.funcs[f]?=some fn)(hname:(fn.name == "runtime.NumGoroutine")=false)(hb:fn.body=some c)(hn:fn.ntmps=n)(hrs:fn.results.toList=rs)
 (hT:TOk P T) (hm:P.follows .mixedOrders=true) (hl:args.length≤n) (h:∀C,Rd C P Gl T n rs v (keyed 0 post)→Go C (.top [.code c] (LS.start args pre))):Fun P Gl f args pre v post:=
 ⟨⟨fn,hf,hname,by rw [hb];rfl⟩,acalls_of hf hb (by rw [hn];exact hl) fun w0 F0 hd0=>h _ ⟨rfl,rfl,hT,hn,hm,fun L x h1 h2 h3=>⟨go_done hT hf (by rw [hrs];exact h1) h2 h3,fun k=>go_ret hT hf (by rw [hrs];exact h1) h2 h3⟩⟩⟩
def retP (T:TT)(rs:List ResultVar)(v:AV)(post:List (Nm × Option Blk))(L:LS):Prop:=match resAV T L rs with
 |some x=>x.frz (lkH post) L.blk=v∧subH L post
 |none=>False
theorem Rd.vc {C:Ctx}{P:Program}{Gl:Granted}{T:TT}{n:Nat}{rs:List ResultVar}{v:AV}{post:List (Nm × Option Blk)}(h:Rd C P Gl T n rs v post)(W:List Nat)(k:Nat){c:Conf}(hv:VC C T W n (retP T rs v post) k c):Go C c:=
 vc_sound h.tok h.n h.mixed (fun L hL=>by
  unfold retP at hL;split at hL
  ·exact h.fin L _ ‹_› hL.1 hL.2
  ·exact hL.elim) k c hv
theorem Rd.go {C:Ctx}{P:Program}{Gl:Granted}{T:TT}{n:Nat}{rs:List ResultVar}{v:AV}{post:List (Nm × Option Blk)}(h:Rd C P Gl T n rs v post)(W:List Nat)(k:Nat){c:Conf}(hv:VCS C T [] W n (retP T rs v post) k c):Go C c:=
 vcs_sound h.tok h.n h.mixed (fun L hL=>by
  unfold retP at hL;split at hL
  ·exact h.fin L _ ‹_› hL.1 hL.2
  ·exact hL.elim) k c hv
theorem Rd.til {C:Ctx}{P:Program}{Gl:Granted}{T:TT}{n:Nat}{rs:List ResultVar}{v:AV}{post:List (Nm × Option Blk)}(h:Rd C P Gl T n rs v post)(S W:List Nat)(k:Nat){c:Conf}(hv:VCS C T S W n (retP T rs v post) k c):Go C c:=
 vcs_sound h.tok h.n h.mixed (fun L hL=>by
  unfold retP at hL;split at hL
  ·exact h.fin L _ ‹_› hL.1 hL.2
  ·exact hL.elim) k c hv
theorem Rd.drawn {C:Ctx}{P:Program}{Gl:Granted}{T:TT}{n:Nat}{rs:List ResultVar}{v:AV}{post:List (Nm × Option Blk)}(h:Rd C P Gl T n rs v post){id:Nat}{ops:Array Oper}{rest:List Item}{L:LS}(hs:(drawOk ops&&statOk ops)=true)(hf:((mayMakeO ops.toList).all fun r=>L.freshB r)=true)
 (hg:Go C (.reg ops true 0 ops.toList [markT] rest L)):Go C (.top (.code (.region id ops true)::rest) L):=go_drawn h.mixed hs hf hg
def allSome:List (Option Blk)→Bool
 |[]=>true
 |some _::l=>allSome l
 |none::_=>false
theorem allSome_spec {L:LS}{ns:List Nm}(h:allSome (blksOf L ns)=true):∀s∈ns,∃b,L.blk s=some b:=by
 induction ns with
 |nil=>intro s hs;cases hs
 |cons x l ih=>
  simp only [blksOf] at h;cases hx:L.blk x with
  |none=>rw [hx] at h;cases h
  |some b=>
   rw [hx] at h;intro s hs;rcases List.mem_cons.1 hs with rfl|hs
   ·exact ⟨b,hx⟩
   ·exact ih h s hs
def callSide (n:Nat)(ops:Array Oper)(draw:Bool)(i:Nat)(o:Oper)(opl:List Oper)(done:List Trace)(L:LS)(g:FuncId)(args:List AV)(ns:List Nm)(pre:List (Option Blk))(v:AV)(post:List (Option Blk)):Prop:=match o.op with
 |.call c=>match c.callee with
  |.value x=>match L.ev x with
   |.fn (.func g') first caps=>g'=g∧guardOf ops o L=some true∧dstOk n o=true∧AV.ren.renL (inName ns) (first++evL L c.args.toList++caps)=args∧renBs (inName ns) (blksOf L ns)=pre∧allSome (blksOf L ns)=true∧nodupB ns=true∧post.length=ns.length∧
    onlyArgs ns.length v.ments=true∧onlyArgs ns.length (blksMents post)=true∧okPair ops draw done o ⟨i,ns,ns⟩ ((v.ren (backName ns)).ments++upsMents (callUps ns ns post)) opl=true
   |_=>False
  |_=>False
 |_=>False
theorem fp_names {L:LS}{ns:List Nm}(h:∀s∈ns,∃b,L.blk s=some b):(ns.filterMap fun s=>(L.blk s).map fun b=>(s,b)).map (·.1)=ns:=by
 induction ns with
 |nil=>rfl
 |cons x l ih=>
  obtain ⟨b,hb⟩:=h x (by simp);simp [hb,ih fun s hs=>h s (by simp [hs])]
theorem Rd.call {C:Ctx}{P:Program}{Gl:Granted}{T:TT}{n:Nat}{rs:List ResultVar}{v:AV}{post:List (Nm × Option Blk)}(h:Rd C P Gl T n rs v post){g:FuncId}{args:List AV}{pre' post':List (Option Blk)}{r:AV}(ns:List Nm)(hc:Fun P Gl g args pre' r post'){ops:Array Oper}{draw:Bool}{i:Nat}{o:Oper}{opl:List Oper}{done:List Trace}{todo:List Item}{L:LS}
 (hs:callSide n ops draw i o opl done L g args ns pre' r post') (hnext:Go C (.reg ops draw (i+1) opl (nexts o draw ⟨i,ns,ns⟩ done) todo (L.app o.dst ⟨r.ren (backName ns),callUps ns ns post'⟩))):Go C (.reg ops draw i (o::opl) done todo L):=by
 unfold callSide at hs;split at hs
 ·rename_i c ho;split at hs
  ·rename_i x hcal;split at hs
   ·rename_i g' first caps hx
    obtain ⟨rfl,hg,hd,hargs,hpre,hall,hnd,hlen,hv,hpost,hok⟩:=hs;obtain ⟨fng,h1,h2,h3⟩:=hc.fn;have hp0:=h.prog;have hg0:=h.gl;subst hp0;subst hg0;have hall:=allSome_spec hall;have e1:=fp_names hall;have e2:=callUps_keys ns ns post' hlen;refine reg_step hg (sem1_call (C:=C) (L:=L) (fun d hd'=>by rw [h.n];exact dstOk_spec hd d hd') ho hcal hx h1 h2 h3 hargs hpre hall (nodupB_spec hnd) hlen hv hpost hc.calls) ?_ ?_ ?_ ?_
    ·intro q hq;obtain ⟨s,hs,hq⟩:=List.mem_filterMap.1 hq;obtain ⟨b,hb⟩:=hall s hs;rw [hb] at hq;cases hq;exact hb
    ·intro s hs;exfalso;obtain ⟨h1,h2⟩:=List.mem_filter.1 hs;rw [e2] at h1;obtain ⟨b,hb⟩:=hall s h1;simp only [Bool.not_eq_true',List.any_eq_false] at h2;have:=h2 (s,b) (List.mem_filterMap.2 ⟨s,h1,by simp [hb]⟩);exact this ((Nm.eqb_iff _ _).2 rfl)
    ·rw [e1,e2];exact hok
    ·rw [e1,e2];exact hnext
   ·exact hs.elim
  ·exact hs.elim
 ·exact hs.elim
inductive Src where
 |nm (s:Nm)
 |nil
def srcOf:List (Nm × Src)→Nm→Src
 |[],r=>.nm r
 |(k,s)::l,r=>if k.eqb r=true then s else srcOf l r
def srcs (θ:List (Nm × Src)):List (Nm × Option Blk)→List Nm
 |[]=>[]
 |(r,b)::l=>match b with
  |none=>srcs θ l
  |some _=>match srcOf θ r with
   |.nm s=>s::srcs θ l
   |.nil=>srcs θ l
def leP (p q:PV):Prop:=match p with
 |.nilS _=>match q with
  |.nilS _=>True
  |.ro _ es=>es = []
  |.val _=>False
  |.opq _=>False
 |p=>p=q
def laid (live:List Nm)(L:LS)(s:Nm)(q:PV):Prop:=match q with
 |.ro sz es=>match L.blk s with
  |some (.row _ sz' es')=>notIn s live=true∧sz'=sz∧es'=es
  |_=>False
 |_=>False
def laidG (live:List Nm)(L:LS)(s:Nm)(q:PV):Prop:=match q with
 |.opq Q=>match L.blk s with
  |some (.gen Q')=>notIn s live=true∧Q=mapAt Q'
  |_=>False
 |_=>False
def laidM (live:List Nm)(L:LS)(s:Nm)(Q:Obj→Prop):Prop:=match L.blk s with
 |some (.raw Q')=>notIn s live=true∧∀o,Q' o→Q o
 |_=>False
def leA (θ:List (Nm × Src))(live:List Nm)(L:LS)(x:AV):AV→Prop
 |.any=>True
 |.pv q=>match x with
  |.pv p=>leP p q
  |.own s=>laid live L s q
  |.hmap s=>laidG live L s q
  |_=>False
 |.own r=>match x with
  |.own s=>srcOf θ r = .nm s
  |.pv p=>match p with
   |.nilS _=>srcOf θ r = .nil
   |_=>False
  |_=>False
 |.ptr r off=>match x with
  |.ptr s off'=>srcOf θ r = .nm s∧off'=off
  |_=>False
 |.ept r sz i f=>match x with
  |.ept s sz' i' f'=>srcOf θ r = .nm s∧sz'=sz∧i'=i∧f'=f
  |_=>False
 |.hmap r=>match x with
  |.hmap s=>srcOf θ r = .nm s
  |_=>False
 |.rop cs=>match x with
  |.rop cs'=>cs'=cs
  |_=>False
 |.rom Q=>match x with
  |.rom Q'=>∀o,Q' o→Q o
  |.hmap s=>laidM live L s Q
  |_=>False
 |.opq Q=>match x with
  |.opq Q'=>Q'=Q
  |_=>False
 |.agg m=>match x with
  |.agg l=>leL θ live L l m
  |_=>False
 |.tup m=>match x with
  |.tup l=>leL θ live L l m
  |_=>False
 |.fn f a b=>match x with
  |.fn f' a' b'=>f'=f∧leL θ live L a' a∧leL θ live L b' b
  |_=>False
where leL (θ:List (Nm × Src)) (live:List Nm) (L:LS):List AV→List AV→Prop
 |l,[]=>l = []
 |l,y::m=>match l with
  |[]=>False
  |x::l=>leA θ live L x y∧leL θ live L l m
def leB (θ:List (Nm × Src))(live:List Nm)(L:LS)(b b':Blk):Prop:=match b with
 |.box ty cs=>match b' with
  |.box ty' cs'=>ty=ty'∧leA.leL θ live L cs cs'
  |_=>False
 |.row e sz es=>match b' with
  |.row e' sz' es'=>e=e'∧sz=sz'∧es=es'
  |_=>False
 |.raw Q=>match b' with
  |.raw Q'=>∀o,Q o→Q' o
  |_=>False
 |.iter Q=>match b' with
  |.iter Q'=>∀b ob o,Q b ob o→Q' b ob o
  |_=>False
 |.gen Q=>match b' with
  |.gen Q'=>∀w F o,Q w F o→Q' w F o
  |_=>False
 |.fam ty l=>match b' with
  |.fam ty' l'=>ty=ty'∧l=l'
  |_=>False
 |.genP ..=>False
def isArg:Nm→Bool
 |.arg _=>true
 |_=>false
def blkOk (θ:List (Nm × Src))(live:List Nm)(L:LS)(r:Nm)(b:Option Blk):Prop:=match b with
 |none=>True
 |some b=>match srcOf θ r with
  |.nil=>isArg r=false∧match b with
   |.row _ _ es=>es = []
   |_=>False
  |.nm s=>(isArg r=true→s=r)∧match L.blk s with
   |some b'=>leB θ live L b' b
   |none=>False
def convS (θ:List (Nm × Src))(live:List Nm)(L:LS):List (Nat × AV)→Prop
 |[]=>True
 |(t,v)::l=>leA θ live L (L.get t) v∧convS θ live L l
def convH (θ:List (Nm × Src))(live:List Nm)(L:LS):List (Nm × Option Blk)→Prop
 |[]=>True
 |(r,b)::l=>blkOk θ live L r b∧convH θ live L l
def conv (θ:List (Nm × Src))(L M:LS):Prop:=nodupB (srcs θ M.H)=true∧convS θ (srcs θ M.H) L M.σ∧convH θ (srcs θ M.H) L M.H
theorem convS_get {θ:List (Nm × Src)}{live:List Nm}{L:LS}:∀ {l:List (Nat × AV)} (t:Nat),convS θ live L l→leA θ live L (L.get t) (lkS l t)
 |[],t,_=>by simp [lkS,leA]
 |(k,v)::l,t,h=>by
  simp only [lkS];split
  ·rename_i e;subst e;exact h.1
  ·exact convS_get t h.2
theorem convH_get {θ:List (Nm × Src)}{live:List Nm}{L:LS}:∀ {l:List (Nm × Option Blk)} (r:Nm),convH θ live L l→blkOk θ live L r (lkH l r)
 |[],r,_=>trivial
 |(k,v)::l,r,h=>by
  simp only [lkH];split
  ·rename_i e;rw [Nm.eqb_iff] at e;subst e;exact h.1
  ·exact convH_get r h.2
theorem srcs_mem {θ:List (Nm × Src)}:∀ {l:List (Nm × Option Blk)} {r s:Nm} {b:Blk},lkH l r=some b→srcOf θ r = .nm s→s∈srcs θ l
 |[],r,s,b,h,_=>by cases h
 |(k,v)::l,r,s,b,h,hs=>by
  simp only [lkH] at h;split at h
  ·rename_i e;rw [Nm.eqb_iff] at e;subst e;subst h;simp [srcs,hs]
  ·have:=srcs_mem h hs;simp only [srcs];cases v with
   |none=>exact this
   |some c=>cases srcOf θ k<;>simp [this]
theorem srcs_inj {θ:List (Nm × Src)}:∀ {l:List (Nm × Option Blk)} {r r' s:Nm} {b b':Blk},(srcs θ l).Nodup→lkH l r=some b→lkH l r'=some b'→srcOf θ r = .nm s→srcOf θ r' = .nm s→r=r'
 |[],r,r',s,b,b',_,h,_,_,_=>by cases h
 |(k,v)::l,r,r',s,b,b',hn,h,h',hs,hs'=>by
  have hn':(srcs θ l).Nodup:=by
   simp only [srcs] at hn;cases v with
   |none=>exact hn
   |some c=>
    cases hk:srcOf θ k with
    |nm q=>rw [hk] at hn;exact (List.nodup_cons.1 hn).2
    |nil=>rw [hk] at hn;exact hn
  simp only [lkH] at h h';by_cases e:k.eqb r=true
  ·rw [if_pos e] at h;rw [Nm.eqb_iff] at e;subst e;by_cases e':k.eqb r'=true
   ·rw [Nm.eqb_iff] at e';exact e'
   ·rw [if_neg e'] at h';subst h;simp only [srcs,hs] at hn;exact absurd (srcs_mem h' hs') (List.nodup_cons.1 hn).1
  ·rw [if_neg e] at h;by_cases e':k.eqb r'=true
   ·rw [if_pos e'] at h';rw [Nm.eqb_iff] at e';subst e';subst h';simp only [srcs,hs'] at hn;exact absurd (srcs_mem h hs) (List.nodup_cons.1 hn).1
   ·rw [if_neg e'] at h';exact srcs_inj hn' h h' hs hs'
def convHd (θ:List (Nm × Src))(M:LS)(hd:Nm→Hd)(r:Nm):Hd:=match M.blk r with
 |none=>.dead
 |some _=>match srcOf θ r with
  |.nm s=>hd s
  |.nil=>.row (.slice none 0 0)
def convF (live:List Nm)(F:Nat→Prop)(hd:Nm→Hd)(k:Nat):Prop:=F k∨∃s,s∉live∧(hd s).owns k
theorem convHd_nm {θ:List (Nm × Src)}{M:LS}{hd:Nm→Hd}{r s:Nm}(h:srcOf θ r = .nm s):convHd θ M hd r=hd s∨convHd θ M hd r = .dead:=by
 unfold convHd;cases M.blk r<;>simp [h]
theorem leP_rep {w:World}{F:Nat→Prop}{p q:PV}{v:Value}(h:leP p q)(hr:RepP w F p v):RepP w F q v:=by
 unfold leP at h;split at h
 ·cases hr;split at h
  ·exact .nilS _
  ·subst h;exact .ro _ [] none 0 (fun _ _=>undef) (fun _=>rfl) (by simp) (by simp) (fun i e h=>by simp at h) (fun h=>absurd rfl h) (fun i j e c h=>by simp at h)
  ·exact h.elim
  ·exact h.elim
 ·subst h;exact hr
theorem leA_rep {θ:List (Nm × Src)}{live:List Nm}{L M:LS}{w:World}{F:Nat→Prop}{hd:Nm→Hd}(hb:∀r,HoldB w F hd r (L.blk r)){x:AV}{v:Value}(h:Rep w F hd x v):∀ {y:AV},leA θ live L x y→Rep w (convF live F hd) (convHd θ M hd) y v:=by
 have hL:∀(m l:List AV) (cs:List Value),leA.leL θ live L l m→(∀(j:Nat) (c:AV) (v:Value),l[j]?=some c→cs[j]?=some v→∀ {y:AV},leA θ live L c y→Rep w (convF live F hd) (convHd θ M hd) y v)→
  l.length=m.length∧∀(j:Nat) (c:AV) (v:Value),m[j]?=some c→cs[j]?=some v→Rep w (convF live F hd) (convHd θ M hd) c v:=by
  intro m;induction m with
  |nil=>intro l cs hl _;simp only [leA.leL] at hl;subst hl;exact ⟨rfl,fun j c v h=>by simp at h⟩
  |cons y m ih=>
   intro l cs hl hh;cases l with
   |nil=>simp only [leA.leL] at hl
   |cons x l=>
    simp only [leA.leL] at hl;cases cs with
    |nil=>
     obtain ⟨i1,_⟩:=ih l [] hl.2 (fun j c v h1 h2=>by simp at h2);exact ⟨by simp [i1],fun j c v _ h2=>by simp at h2⟩
    |cons u cs=>
     obtain ⟨i1,i2⟩:=ih l cs hl.2 (fun j c v h1 h2=>hh (j+1) c v (by simpa using h1) (by simpa using h2));refine ⟨by simp [i1],fun j c v h1 h2=>?_⟩;cases j with
     |zero=>simp at h1 h2;subst h1 h2;exact hh 0 x u rfl rfl hl.1
     |succ j=>simp at h1 h2;exact i2 j c v h1 h2
 induction h with
 |pv p v h=>
  intro y hy;cases y<;>simp only [leA] at hy
  ·exact .pv _ v (leP_rep hy (h.mono (fun _ _=>rfl) (fun _ h=>.inl h)))
  ·rename_i r;split at hy
   ·cases h;refine .own r _ rfl fun u hu=>?_;simp only [convHd,hy] at hu;split at hu
    ·cases hu
    ·exact (Hd.row.inj hu)
   ·exact hy.elim
  ·exact .any _
 |agg l cs hl h h1 ih=>
  intro y hy;cases y<;>simp only [leA] at hy
  ·obtain ⟨i1,i2⟩:=hL _ l cs hy (fun j c v h1 h2 {y} hc=>ih j c v h1 h2 hc);exact .agg _ cs (by rw [hl,i1]) i2 h1
  ·exact .any _
 |tup l cs hl h ih=>
  intro y hy;cases y<;>simp only [leA] at hy
  ·obtain ⟨i1,i2⟩:=hL _ l cs hy (fun j c v h1 h2 {y} hc=>ih j c v h1 h2 hc);exact .tup _ cs (by rw [hl,i1]) i2
  ·exact .any _
 |own s v h1 h=>
  intro y hy;cases y<;>simp only [leA] at hy
  ·unfold laid at hy;split at hy
   ·rename_i sz es;have hbs:=hb s;split at hy
    ·rename_i e sz' es' hbl;obtain ⟨hni,rfl,rfl⟩:=hy;rw [hbl] at hbs;obtain ⟨u,cells,q1,q2,q3,q4,q5⟩:=hbs;obtain rfl:=h u q1;exact .pv _ _ (row_ro q2 q3 (fun i j el c u' a1 a2 a3=>(q4 i j el c u' a1 a2 a3).mono (fun _ _=>rfl) (fun _ h=>.inl h)) (fun k hk=>.inr ⟨s,(notIn_iff _ _).1 hni,by rw [q1];exact hk⟩))
    ·exact hy.elim
   ·exact hy.elim
  ·rename_i r;refine .own r v h1 fun u hu=>h u ?_;rcases convHd_nm (M:=M) (hd:=hd) hy with e|e
   ·exact e ▸ hu
   ·rw [e] at hu;cases hu
  ·exact .any _
 |ptr s off v h1 h=>
  intro y hy;cases y<;>simp only [leA] at hy
  ·rename_i r off';obtain ⟨hy,rfl⟩:=hy;refine .ptr r off v h1 fun u hu=>h u ?_;rcases convHd_nm (M:=M) (hd:=hd) hy with e|e
   ·exact e ▸ hu
   ·rw [e] at hu;cases hu
  ·exact .any _
 |ept s sz i f v h1 h=>
  intro y hy;cases y<;>simp only [leA] at hy
  ·rename_i r _ _ _;obtain ⟨hy,rfl,rfl,rfl⟩:=hy;refine .ept r sz i f v h1 fun g n c hu=>h g n c ?_;rcases convHd_nm (M:=M) (hd:=hd) hy with e|e
   ·exact e ▸ hu
   ·rw [e] at hu;cases hu
  ·exact .any _
 |rop cs ad u hs h1 hc hr=>
  intro y hy;cases y<;>simp only [leA] at hy
  ·subst hy;exact .rop cs ad u hs (.inl h1) hc (fun j c hj=>(hr j c hj).mono (fun _ _=>rfl) (fun _ h=>.inl h))
  ·exact .any _
 |fn f a b va vb ha hb' h h' ih ih'=>
  intro y hy;cases y<;>simp only [leA] at hy
  ·obtain ⟨rfl,y1,y2⟩:=hy;obtain ⟨i1,i2⟩:=hL _ a va y1 (fun j c v h1 h2 {y} hc=>ih j c v h1 h2 hc);obtain ⟨i3,i4⟩:=hL _ b vb y2 (fun j c v h1 h2 {y} hc=>ih' j c v h1 h2 hc);exact .fn _ _ _ va vb (by rw [ha,i1]) (by rw [hb',i3]) i2 i4
  ·exact .any _
 |hmap s v h1 h=>
  intro y hy;cases y<;>simp only [leA] at hy
  ·unfold laidG at hy;have hbs:=hb s;split at hy
   ·split at hy
    ·rename_i Q' hbl;obtain ⟨hni,rfl⟩:=hy;rw [hbl] at hbs;obtain ⟨k,o,q1,q2,q3⟩:=hbs;obtain rfl:=h k q1;have hF:convF live F hd k:=.inr ⟨s,(notIn_iff _ _).1 hni,by rw [q1];exact rfl⟩;exact .pv _ _ (.opq _ _ rfl fun w2 F2 e1 e2=>⟨k,o,rfl,e2 k hF,(e1 k hF).trans q2,q3 w2 F2 (fun j hj=>e1 j (.inl hj)) (fun j hj=>e2 j (.inl hj))⟩)
    ·exact hy.elim
   ·exact hy.elim
  ·rename_i r;refine .hmap r v h1 fun u hu=>h u ?_;rcases convHd_nm (M:=M) (hd:=hd) hy with e|e
   ·exact e ▸ hu
   ·rw [e] at hu;cases hu
  ·unfold laidM at hy;have hbs:=hb s;split at hy
   ·rename_i Q' hbl;obtain ⟨hni,hq⟩:=hy;rw [hbl] at hbs;obtain ⟨k,o,q1,q2,q3⟩:=hbs;obtain rfl:=h k q1;exact .rom _ k o (.inr ⟨s,(notIn_iff _ _).1 hni,by rw [q1];exact rfl⟩) q2 (hq o q3)
   ·exact hy.elim
  ·exact .any _
 |rom Q k o h1 h2 h3=>
  intro y hy;cases y<;>simp only [leA] at hy
  ·exact .rom _ k o (.inl h1) h2 (hy o h3)
  ·exact .any _
 |opq Q v h1 h=>
  intro y hy;cases y<;>simp only [leA] at hy
  ·subst hy;exact .opq _ v h1 fun w2 F2 e1 e2=>h w2 F2 (fun k hk=>e1 k (.inl hk)) (fun k hk=>e2 k (.inl hk))
  ·exact .any _
 |any v=>
  intro y hy;cases y<;>simp only [leA] at hy
  exact .any _
theorem leL_rep {θ:List (Nm × Src)}{live:List Nm}{L M:LS}{w:World}{F:Nat→Prop}{hd:Nm→Hd}(hb:∀r,HoldB w F hd r (L.blk r)):∀ {m l:List AV} {cs:List Value},leA.leL θ live L l m→(∀(j:Nat) (c:AV) (v:Value),l[j]?=some c→cs[j]?=some v→Rep w F hd c v)→
 l.length=m.length∧∀(j:Nat) (c:AV) (v:Value),m[j]?=some c→cs[j]?=some v→Rep w (convF live F hd) (convHd θ M hd) c v
 |[],l,cs,h,hr=>by simp only [leA.leL] at h;subst h;exact ⟨rfl,fun j c v h=>by simp at h⟩
 |y::m,[],cs,h,hr=>by simp only [leA.leL] at h
 |y::m,x::l,[],h,hr=>by
  simp only [leA.leL] at h;obtain ⟨i1,_⟩:=leL_rep (M:=M) (cs:=[]) hb h.2 (fun j c v h1 h2=>by simp at h2);exact ⟨by simp [i1],fun j c v _ h2=>by simp at h2⟩
 |y::m,x::l,u::cs,h,hr=>by
  simp only [leA.leL] at h;obtain ⟨i1,i2⟩:=leL_rep (cs:=cs) hb h.2 (fun j c v h1 h2=>hr (j+1) c v (by simpa using h1) (by simpa using h2));refine ⟨by simp [i1],fun j c v h1 h2=>?_⟩;cases j with
  |zero=>simp at h1 h2;subst h1 h2;exact leA_rep hb (hr 0 x u rfl rfl) h.1
  |succ j=>simp at h1 h2;exact i2 j c v h1 h2
theorem Inv.conv {C:Ctx}{θ:List (Nm × Src)}{L M:LS}(h:conv θ L M){hd:Nm→Hd}{F:Nat→Prop}{a:Act}{w:World}(hi:Inv C L hd F a w):Inv C M (convHd θ M hd) (convF (srcs θ M.H) F hd) a w:=by
 obtain ⟨hnd,hS,hH⟩:=h;have hnd:=nodupB_spec hnd;have hown:∀r k,(convHd θ M hd r).owns k→∃s b,M.blk r=some b∧srcOf θ r = .nm s∧convHd θ M hd r=hd s∧(hd s).owns k∧s∈srcs θ M.H:=by
  intro r k hk;unfold convHd at hk ⊢;cases hm:M.blk r with
  |none=>rw [hm] at hk;exact hk.elim
  |some b=>
   rw [hm] at hk;cases hs:srcOf θ r with
   |nil=>rw [hs] at hk;cases hk
   |nm s=>rw [hs] at hk;exact ⟨s,b,rfl,rfl,by simp,hk,srcs_mem hm hs⟩
 refine { slots:=fun t=>leA_rep hi.blocks (hi.slots t) (convS_get t hS),blocks:=fun r=>?_,sep:=fun r r' k hne h1 h2=>?_,mine:=fun r k hk=>?_,fin:=fun k hk=>?_,more:=fun k hk=>.inl (hi.more k hk),kept:=fun i=>?_,gl:=C.Gl.mono hi.gl (fun _ _=>rfl) (fun _ h=>.inl h),os:=hi.os,tape:=hi.tape,output:=hi.output,size:=hi.size,old:=hi.old,ntmps:=hi.ntmps,defers:=hi.defers }
 ·have hok:=convH_get r hH;have hmr:M.blk r=lkH M.H r:=rfl;rw [hmr];cases hl:lkH M.H r with
  |none=>simp [HoldB,convHd,hmr,hl]
  |some b=>
   rw [hl] at hok;simp only [blkOk] at hok;cases hs:srcOf θ r with
   |nil=>
    rw [hs] at hok;obtain ⟨_,hok⟩:=hok;cases b with
    |row e sz es=>
     simp only at hok;subst hok;exact ⟨.slice none 0 0,[],by simp [convHd,hmr,hl,hs],World.ownsRow_nil w 0 e sz,fun i el h=>by simp at h,fun i j el c u h=>by simp at h,by simp⟩
    |box=>exact hok.elim
    |raw=>exact hok.elim
    |iter=>exact hok.elim
    |gen=>exact hok.elim
    |fam=>exact hok.elim
    |genP=>exact hok.elim
   |nm s=>
    rw [hs] at hok;obtain ⟨_,hok⟩:=hok;have hhd:convHd θ M hd r=hd s:=(by simp [convHd,hmr,hl,hs]);have hbs:=hi.blocks s;cases hb':L.blk s with
    |none=>rw [hb'] at hok;exact hok.elim
    |some b'=>
     rw [hb'] at hok hbs;simp only at hok;cases b' with
     |box ty cs=>
      cases b<;>simp only [leB] at hok
      obtain ⟨rfl,hok⟩:=hok;obtain ⟨k,arr,h1,h2,h3,h4,h5⟩:=hbs;obtain ⟨i1,i2⟩:=leL_rep (M:=M) (cs:=arr.toList) hi.blocks hok (fun j c v h6 h7=>h4 j c v h6 (by simpa using h7));exact ⟨k,arr,hhd.trans h1,h2,by rw [h3,i1],fun j c v h6 h7=>i2 j c v h6 (by simpa using h7),h5⟩
     |row e sz es=>
      cases b<;>simp only [leB] at hok
      obtain ⟨rfl,rfl,rfl⟩:=hok;obtain ⟨v,cells,h1,h2,h3,h4,h5⟩:=hbs;exact ⟨v,cells,hhd.trans h1,h2,h3,fun i j el c u a1 a2 a3=>(h4 i j el c u a1 a2 a3).mono (fun _ _=>rfl) (fun _ h=>.inl h),h5⟩
     |raw Q=>
      cases b<;>simp only [leB] at hok
      obtain ⟨k,o,h1,h2,h4⟩:=hbs;exact ⟨k,o,hhd.trans h1,h2,hok _ h4⟩
     |iter Q=>
      cases b<;>simp only [leB] at hok
      obtain ⟨k,o,b,ob,h1,h2,h3,h4,h5⟩:=hbs;exact ⟨k,o,b,ob,hhd.trans h1,h2,.inl h3,h4,hok _ _ _ h5⟩
     |gen Q=>
      cases b<;>simp only [leB] at hok
      obtain ⟨k,o,h1,h2,h4⟩:=hbs;exact ⟨k,o,hhd.trans h1,h2,fun w2 F2 e1 e2=>hok _ _ _ (h4 w2 F2 (fun k hk=>e1 k (.inl hk)) (fun k hk=>e2 k (.inl hk)))⟩
     |genP Q s'=>exact hok.elim
     |fam ty l=>
      cases b<;>simp only [leB] at hok
      obtain ⟨rfl,rfl⟩:=hok;obtain ⟨h1,h2⟩:=hbs;refine ⟨hhd.trans h1,fun k p hp=>?_⟩;obtain ⟨cs,arr,q1,q2,q3,q4,q5⟩:=h2 k p hp;exact ⟨cs,arr,q1,q2,q3,fun j c v a1 a2=>(q4 j c v a1 a2).mono (fun _ _=>rfl) (fun _ h=>.inl h),q5⟩
 ·obtain ⟨s,b,hm,hs,_,ho,_⟩:=hown r k h1;obtain ⟨s',b',hm',hs',_,ho',_⟩:=hown r' k h2;by_cases e:s=s'
  ·subst e;exact hne (srcs_inj hnd hm hm' hs hs')
  ·exact hi.sep s s' k e ho ho'
 ·obtain ⟨s,b,hm,hs,_,ho,hmem⟩:=hown r k hk;obtain ⟨q1,q2,q3⟩:=hi.mine s k ho;refine ⟨?_,q2,q3⟩
  rintro (h|⟨s',hn,hs'⟩)
  ·exact q1 h
  ·exact hi.sep s s' k (fun e=>hn (e ▸ hmem)) ho hs'
 ·rcases hk with h|⟨s,_,ho⟩
  ·exact hi.fin k h
  ·exact ⟨(hi.mine s k ho).2.1,.inr (hi.mine s k ho).2.2⟩
 ·have hok:=convH_get (.arg i) hH;have hmr:M.blk (.arg i)=lkH M.H (.arg i):=rfl;cases hl:lkH M.H (.arg i) with
  |none=>right;simp [convHd,hmr,hl]
  |some b=>
   rw [hl] at hok;simp only [blkOk] at hok;cases hs:srcOf θ (.arg i) with
   |nil=>rw [hs] at hok;simp [isArg] at hok
   |nm s=>
    rw [hs] at hok;have e:=hok.1 rfl;subst e;have:convHd θ M hd (.arg i)=hd (.arg i):=(by simp [convHd,hmr,hl,hs]);rw [this];exact hi.kept i
theorem go_to {C:Ctx}{todo:List Item}{L M:LS}(θ:List (Nm × Src))(h:Go C (.top todo M))(hk:conv θ L M):Go C (.top todo L):=by
 intro hd F a w hi cs;exact h _ _ a w (hi.conv hk) cs
theorem go_len {C:Ctx}{todo:List Item}{L:LS}(t sz:Nat)(es:List (List PV))(ht:L.get t = .pv (.ro sz es))(h:es.length≤9223372036854775807→Go C (.top todo L)):Go C (.top todo L):=by
 intro hd F a w hi cs;have hs:=hi.slots t;rw [ht] at hs;generalize a.tmps.getD t undef=v at hs;cases hs with
 |pv _ _ hp=>cases hp with
  |ro _ _ A cap u hA hc hm=>exact h hm hd F a w hi cs
theorem go_loop {C:Ctx}{ι:Type}(I:ι→LS)(μ:ι→Nat){c:Code}{k:List Item}{L:LS}(x0:ι)(θ:List (Nm × Src))(h0:conv θ L (I x0))
 (round:∀x,(∀y,μ y<μ x→Go C (.top (.inLoop c::k) (I y)))→Go C (.top (.code c :: .inLoop c::k) (I x))):Go C (.top (.code (.loop c)::k) L):=by
 have key:∀m x,μ x=m→Go C (.top (.code c :: .inLoop c::k) (I x)):=by
  intro m;induction m using Nat.strongRecOn with
  |_ m ih=>
   intro x hx;refine round x fun y hy=>?_;exact go_inLoop (ih (μ y) (hx ▸ hy) y rfl)
 exact go_loopIn (go_to θ (key _ x0 rfl) h0)
theorem go_first {C:Ctx}{c:Code}{k:List Item}{L:LS}(h:Go C (.top (.code c :: .inLoop c::k) L)):Go C (.top (.code (.loop c)::k) L):=go_loopIn h
theorem go_again {C:Ctx}{c:Code}{k:List Item}{L:LS}(h:Go C (.top (.code c :: .inLoop c::k) L)):Go C (.top (.inLoop c::k) L):=go_inLoop h
theorem go_cut {C:Ctx}{ι:Type}(J:ι→LS){x y:Code}{k:List Item}{L:LS}(hB:∀z,Go C (.top (.code y::k) (J z)))(hA:(∀z,Go C (.top (.code y::k) (J z)))→Go C (.top (.code x :: .code y::k) L)):Go C (.top (.code (.seq x y)::k) L):=
 go_seq (hA hB)
end Go.Abs
namespace Go.Abs
open Go.RowKit
theorem dead_of {w:World}{F:Nat→Prop}{hd:Nm→Hd}(h:Lies w F hd (keyed 0 []))(r:Nm):hd r = .dead:=h.holds r
theorem fun_shelf {P:Program}{Gl:Granted}{g:FuncId}{args:List AV}{v:AV}(hfn:∃fng,P.funcs[g]?=some fng∧(fng.name == "runtime.NumGoroutine")=false∧fng.body.isNone=false)
 (h:∀(w:World) (F:Nat→Prop) (cargs:List Value),Gl.p w F→(∀k,F k→k<w.heap.size)→cargs.length=args.length→(∀(j:Nat) (x:AV) (c:Value),args[j]?=some x→cargs[j]?=some c→Rep w F (fun _=>.dead) x c)→
   Calls P g cargs.toArray w fun e w'=>∃cv,e = .returned cv∧Rep w' F (fun _=>.dead) v cv∧Below w.heap.size w w'):Fun P Gl g args [] v []:=by
 refine ⟨hfn,fun w0 F0 hd0 cargs hg hl hlen hr=>?_⟩;have hd:hd0=fun _=>.dead:=funext fun r=>dead_of hl r;subst hd;refine (h w0 F0 cargs hg hl.fin hlen hr).mono fun e w' he=>?_;obtain ⟨cv,rfl,hrep,hb⟩:=he;exact ⟨cv,F0,_,rfl,hrep,⟨fun k hk=>Nat.lt_of_lt_of_le (hl.fin k hk) hb.size,fun r s k _ h=>h.elim,fun r k h=>h.elim,fun r=>rfl⟩,
  ⟨fun r k h=>h.elim,fun k hk=>.inl hk,fun k hk=>hk,fun i=>.inl rfl,hb.os,hb.tape,hb.output,hb.size,fun k hk _=>hb.block k hk⟩⟩
theorem fun_vals {P:Program}{Gl:Granted}{g:FuncId}(args:List Value)(r:Value)(hfn:∃fng,P.funcs[g]?=some fng∧(fng.name == "runtime.NumGoroutine")=false∧fng.body.isNone=false)(hr:r.oneCell'=true)
 (h:∀w,Calls P g args.toArray w fun e w'=>e = .returned r∧Below w.heap.size w w'):Fun P Gl g (args.map fun v=>.pv (.val v)) [] (.pv (.val r)) []:=by
 refine fun_shelf hfn fun w F cargs _ _ hlen hreps=>?_;have:cargs=args:=by
  rw [List.length_map] at hlen;apply List.ext_getElem?;intro j;by_cases hj:j<args.length
  ·have hj':j<cargs.length:=(by omega);have:=hreps j (.pv (.val args[j])) cargs[j] (by simp [hj]) (List.getElem?_eq_getElem hj');rw [List.getElem?_eq_getElem hj',List.getElem?_eq_getElem hj,bool_of this]
  ·rw [List.getElem?_eq_none (by omega),List.getElem?_eq_none (by omega)]
 subst this;exact (h w).mono fun e w' ⟨he,hb⟩=>⟨r,he,.pv _ _ (.val r hr),hb⟩
end Go.Abs
namespace Go.Abs
open Go.RowKit Go.ChangeMaps Go.MapKept
open Go.WideElems (Fit rd rg pl)
open Go.Maps (Keyed Tidy IsMap)
def mapQ (P:Program)(k e:Nat)(A:DataW Unit→Prop)(o:Obj):Prop:=
 ∃es clock,o = .map es clock∧Fit P k (plainElem (H:=Unit) P e) es clock∧A (.map ((es.toList.map (rg P k (plainElem P e))).foldr DataW.insert []))
theorem mapQ_owns {P:Program}{k e:Nat}{A:DataW Unit→Prop}{w:World}{b:Nat}{o:Obj}(h:w.heap[b]?=some o)(hq:mapQ P k e A o):∃D,A D∧w.ownsMap P k (plainElem P e) b (Maps.size D) D:=by
 obtain ⟨es,clock,rfl,F,hA⟩:=hq;exact ⟨_,hA,es,clock,h,F,by simp [Maps.size,length_sorted],rfl⟩
theorem owns_mapQ {P:Program}{k e:Nat}{A:DataW Unit→Prop}{w:World}{b n:Nat}{D:DataW Unit}(h:w.ownsMap P k (plainElem P e) b n D)(hA:A D):∃o,w.heap[b]?=some o∧mapQ P k e A o:=by
 obtain ⟨es,clock,hb,F,hs,rfl⟩:=h;exact ⟨_,hb,es,clock,rfl,F,hA⟩
theorem mapQ_made {P:Program}{k e:Nat}{A:DataW Unit→Prop}(h:A (.map [])):mapQ P k e A (.map #[] 0):=
 ⟨#[],0,rfl,⟨by simp,stamped_empty 0,by simp⟩,h⟩
def Clean (D:DataW Unit):Prop:=∃es,D = .map es∧es.Pairwise (fun p q=>p.1≠q.1)∧∀p∈es,WideAt.IsKeyLit p.1
theorem Clean.isMap {D:DataW Unit}(h:Clean D):IsMap D:=let ⟨es,e,_⟩:=h;⟨es,e⟩
theorem inv_obj {C:Ctx}{L:LS}{hd:Nm→Hd}{F:Nat→Prop}{a:Act}{w:World}(hi:Inv C L hd F a w){r:Nm}(hna:∀i,r≠.arg i)(hb:L.blk r=none)(hf:L.Fresh r)(o:Obj)(b:Blk)
 (hB:∀hd',hd' r = .box w.heap.size→HoldB (w.alloc o) F hd' r (some b)) :
 ∃hd',Inv C (L.upd [(r,some b)]) hd' F a (w.alloc o)∧hd' r = .box w.heap.size:=by
 have hdead:hd r = .dead:=by have:=hi.blocks r;rw [hb] at this;exact this
 have hold:∀k,k<w.heap.size→(w.alloc o).heap[k]?=w.heap[k]?:=fun k hk=>Below.heap_alloc _ _ _ hk;refine ⟨fun s=>if s=r then .box w.heap.size else hd s,inv_upd hi _ _ (fun _=>False) rfl rfl rfl (by simp) (fun k hk _=>hold k hk) (fun k h=>h.elim) (fun s hs=>?_) (fun s b' hs=>?_) (fun s hs=>?_) (fun r' s k hne h1 h2=>?_) (fun r' k hk=>?_),by simp⟩
 ·have:s≠r:=fun e=>hs (by simp [e]);simp [this]
 ·by_cases hsr:s=r
  ·subst hsr;simp only [upsGet,if_true,Option.some.injEq] at hs;subst hs;exact hB _ (by simp)
  ·have:r≠s:=fun e=>hsr e.symm;simp [upsGet,this] at hs
 ·simp at hs;subst hs;exact .inr (.inr ⟨hf,hna⟩)
 ·by_cases e1:r'=r
  ·by_cases e2:s=r
   ·exact hne (e1.trans e2.symm)
   ·rw [if_pos e1] at h1;rw [if_neg e2] at h2;have:=(hi.mine s k h2).2.1;have h1:w.heap.size=k:=h1;omega
  ·rw [if_neg e1] at h1;by_cases e2:s=r
   ·rw [if_pos e2] at h2;have:=(hi.mine r' k h1).2.1;have h2:w.heap.size=k:=h2;omega
   ·rw [if_neg e2] at h2;exact hi.sep r' s k hne h1 h2
 ·by_cases e1:r'=r
  ·rw [if_pos e1] at hk;have hk:w.heap.size=k:=hk;exact ⟨.inr (by omega),by simp [←hk]⟩
  ·rw [if_neg e1] at hk;have:=(hi.mine r' k hk).2.1;exact ⟨.inl ⟨r',hk⟩,by simp;omega⟩
theorem inv_turn {C:Ctx}{L:LS}{hd:Nm→Hd}{F:Nat→Prop}{a:Act}{w w':World}(hi:Inv C L hd F a w){r:Nm}{k:Nat}(hk:hd r = .box k)(b:Blk)(hg:w.grownBy w' (some k))(hsz:w'.heap.size=w.heap.size)
 (hB:HoldB w' F hd r (some b)):Inv C (L.upd [(r,some b)]) hd F a w':=by
 refine inv_upd hi _ hd (fun j=>j=k) hg.os hg.tape hg.output hg.size (fun j hj hne=>hg.block j hj (by simpa using hne)) (fun j hj=>⟨r,by rw [hk];exact hj.symm⟩) (fun s hs=>⟨rfl,fun j hj hjk=>?_⟩) (fun s b' hs=>?_) (fun s _=>.inl rfl) hi.sep (fun r' j hj=>⟨.inl ⟨r',hj⟩,?_⟩)
 ·have hne:s≠r:=fun e=>hs (by simp [e]);exact hi.sep s r j hne hj (by rw [hk];exact hjk.symm)
 ·by_cases hsr:s=r
  ·subst hsr;simp only [upsGet,if_true,Option.some.injEq] at hs;subst hs;exact hB
  ·have:r≠s:=fun e=>hsr e.symm;simp [upsGet,this] at hs
 ·have:=(hi.mine r' j hj).2.1;rw [hsz];exact this
section
variable {C:Ctx} {o:Oper} {ev:Operand→AV}
theorem sem1_makeMap {d:Nat}{t:TypeId}(hd:o.dst=some d)(hn:d<C.fn.ntmps)(ho:o.op = .makeMap t none)(k e:Nat)(A:DataW Unit→Prop)(hA:A (.map [])) :
 Sem1 C o ev [] ⟨.hmap (.loc d),[(.loc d,some (.raw (mapQ C.P k e A)))]⟩:=by
 refine sem1_of (fun d' h=>by rw [hd] at h;cases h;exact hn) fun L hd' F a w hev hfp hnew hi=>?_;obtain ⟨m1,m2⟩:=hnew (.loc d) (by simp [news]);obtain ⟨hd2,h1,h2⟩:=inv_obj hi (r:=.loc d) (by simp) m1 m2 (.map #[] 0) (.raw (mapQ C.P k e A)) (fun hd2 h=>⟨_,_,h,heap_alloc_new w _,mapQ_made hA⟩);refine ⟨.map (some w.heap.size),_,hd2,F,.inl ?_,h1,.hmap _ _ rfl fun k hk=>by rw [h2] at hk;cases hk;rfl⟩;simp [execOp,ho,run_makeMap,Result.andThen]
theorem sem1_update {r:Nm}{t:TypeId}{m x v:Operand}{k e:Nat}(hdst:∀d,o.dst=some d→d<C.fn.ntmps)(ho:o.op = .mapUpdate t m x v∨o.op = .insert t m x v)(ht:C.P.underlying t=some (.map k e))(K:Keyed C.P k){A A':DataW Unit→Prop}{key val:Value}{kl:Lit}{d:DataW Unit}{ps:List MemPlace}
 (hm:ev m = .hmap r) (hx:ev x = .pv (.val key)) (hv:ev v = .pv (.val val)) (hkey:keyOf C.P k key=some kl) (hval:plainElem C.P e val=some (d,ps)) (hA:∀D,Clean D→A D→Maps.size D<maxLen∧A' (D.put kl d)) :
 Sem1 C o ev [(r,.raw (mapQ C.P k e A))] ⟨.any,[(r,some (.raw (mapQ C.P k e A')))]⟩:=by
 refine sem1_of hdst fun L hd F a w hev hfp hnew hi=>?_;have e1:=hev m (by rcases ho with ho|ho<;>simp [ho,Op.operands]);have e2:=hev x (by rcases ho with ho|ho<;>simp [ho,Op.operands]);have e3:=hev v (by rcases ho with ho|ho<;>simp [ho,Op.operands]);rw [hm] at e1;rw [hx] at e2;rw [hv] at e3;have e2:=bool_of e2;have e3:=bool_of e3;have hb:=hi.blocks r;rw [hfp (r,.raw (mapQ C.P k e A)) (by simp)] at hb;obtain ⟨j,ob,q1,q2,q3⟩:=hb;have e1:a.eval m = .map (some j):=by cases e1 with|hmap _ _ _ h=>exact h j q1
 obtain ⟨D,hD,hown⟩:=mapQ_owns q2 q3;obtain ⟨s1,s2⟩:=hA D (hown.entries K) hD;obtain ⟨w',r1,r2,r3⟩:=hown.store K ht s1 hkey hval;have hg:=r3.grown;have hsz:w'.heap.size=w.heap.size:=by
  obtain ⟨_,_,_,_,_,rfl⟩:=r3;simp [setBlock]
 obtain ⟨o',p1,p2⟩:=owns_mapQ (A:=A') r2 s2;refine ⟨_,w',hd,F,.inr ⟨?_,rfl⟩,inv_turn hi q1 _ hg hsz ⟨j,o',q1,p1,p2⟩,.any _⟩;rcases ho with ho|ho<;>simp [execOp,ho,e1,e2,e3,r1,Result.andThen]
theorem sem1_lookup {t:TypeId}{m x:Operand}{k e:Nat}{q:IntKind}(hdst:∀d,o.dst=some d→d<C.fn.ntmps)(ho:o.op = .lookup t m x false)(ht:C.P.underlying t=some (.map k e))(he:C.P.underlying e=some (.int q))(hz:∀w,(zeroValue e).run C.P w = .ok (.int q 0) w)(K:Keyed C.P k){A:DataW Unit→Prop}{key:Value}{kl:Lit}{c:Int}
 (fp:List (Nm × Blk)) (hm:(∃Q,ev m = .rom Q∧(∀o,Q o→mapQ C.P k e A o))∨∃r,ev m = .hmap r∧(r,Blk.raw (mapQ C.P k e A))∈fp) (hx:ev x = .pv (.val key)) (hkey:keyOf C.P k key=some kl) (hA:∀D,A D→D.atKey kl (.lit (.int q 0)) = .lit (.int q c)) :
 Sem1 C o ev fp ⟨.pv (.val (.int q c)),[]⟩:=by
 refine sem1_read hdst fun L hd F a w hev hfp hi=>?_;have e1:=hev m (by simp [ho,Op.operands]);have e2:=hev x (by simp [ho,Op.operands]);rw [hx] at e2;have e2:=bool_of e2;have hmap:∃j ob,a.eval m = .map (some j)∧w.heap[j]?=some ob∧mapQ C.P k e A ob:=by
  rcases hm with ⟨Q,hm,hQ⟩|⟨r,hm,hr⟩
  ·rw [hm] at e1;generalize a.eval m=z at e1;cases e1 with|rom _ j ob h1 h2 h3=>exact ⟨j,ob,rfl,h2,hQ _ h3⟩
  ·rw [hm] at e1;have hb:=hi.blocks r;rw [hfp _ hr] at hb;obtain ⟨j,ob,q1,q2,q3⟩:=hb;exact ⟨j,ob,by cases e1 with|hmap _ _ _ h=>exact h j q1,q2,q3⟩
 obtain ⟨j,ob,e1,q2,q3⟩:=hmap;obtain ⟨D,hD,hown⟩:=mapQ_owns q2 q3;obtain ⟨c',hrun,hat,_⟩:=hown.lookup_int K ht he (hz w) hkey;have:=hA D hD;rw [hat] at this;simp only [DataW.lit.injEq,Lit.int.injEq,true_and] at this;subst this;exact ⟨_,by simp [execOp,ho,e1,e2,hrun,Result.andThen],rep_val rfl⟩
theorem sem1_lenMap {t:TypeId}{m:Operand}{c:Call}{k e:Nat}(hdst:∀d,o.dst=some d→d<C.fn.ntmps)(ho:o.op = .call c)(hc:c.callee = .builtin .len)(hx':c.args = #[m])(hts:c.argTypes = #[t])(ht:C.P.underlying t=some (.map k e)){A:DataW Unit→Prop}{n:Int}
 {r:Nm} (hm:ev m = .hmap r) (hA:∀D,Clean D→A D→(Maps.size D:Int)=n) (K:Keyed C.P k):Sem1 C o ev [(r,.raw (mapQ C.P k e A))] ⟨.pv (.val (.int .i64 n)),[]⟩:=by
 refine sem1_read hdst fun L hd F a w hev hfp hi=>?_;have e1:=hev m (by simp [ho,Op.operands,Call.operands,hx',hc]);rw [hm] at e1;have hb:=hi.blocks r;rw [hfp (r,.raw (mapQ C.P k e A)) (by simp)] at hb;obtain ⟨j,ob,q1,q2,q3⟩:=hb;have e1:a.eval m = .map (some j):=by cases e1 with|hmap _ _ _ h=>exact h j q1
 obtain ⟨D,hD,hown⟩:=mapQ_owns q2 q3;have hn:=hA D (hown.entries K) hD;have hrun:=hown.len ht o.type;rw [hn] at hrun;exact ⟨_,by simp [execOp,ho,resolve,hc,hx',hts,invoke,builtin,e1,hrun,Result.andThen],rep_val rfl⟩
def iterQ (P:Program)(k e:Nat)(A:DataW Unit→Prop)(T:Lit→Prop)(last:Option (Value × Value))(b:Nat)(ob o:Obj):Prop:=
 (∀kv,last=some kv→∀(w:World) (r:Nat),w.heap[b]?=some ob→w.heap[r]?=some o→(Instr.entry (.pointer (some ⟨r,0,none⟩))).run P w = .ok (.tuple #[kv.1,kv.2]) w)∧∃D left cnt,A D∧(∀(w:World) (r:Nat),w.heap[b]?=some ob→w.heap[r]?=some o→w.ranges P k (plainElem P e) b r (Maps.size D) D left cnt)∧∀kl,left kl=true↔Maps.has D kl=true∧¬T kl
theorem entry_any {P:Program}{k e b r n:Nat}{D:DataW Unit}{left:Lit→Bool}{cnt:Nat}{w w':World}(h:w.ranges P k (plainElem P e) b r n D left cnt){r':Nat}(hb:w'.heap[b]?=w.heap[b]?)(hr:w'.heap[r']?=w.heap[r]?){z:Value}
 (he:(Instr.entry (.pointer (some ⟨r,0,none⟩))).run P w = .ok z w):(Instr.entry (.pointer (some ⟨r',0,none⟩))).run P w' = .ok z w':=by
 obtain ⟨es,clock,since,seen,c0,h1,F,hs,hD,h2,rest⟩:=h;rw [h1] at hb;rw [h2] at hr;simp only [Instr.entry,getObj,Sem.run_bind,Sem.run,h2,hr,Result.andThen] at he ⊢;cases hbk:seen.back? with
 |none=>rw [hbk] at he;simp [stuck] at he
 |some st=>
  rw [hbk] at he;simp only [Sem.run_bind,Sem.run,h1,hb,Result.andThen] at he ⊢;by_cases hc:(clock != c0)=true
  ·simp [hc,unsupported] at he
  ·simp only [hc] at he ⊢;cases hf:es.find? (fun x=>x.born == st) with
   |none=>simp [hf,unsupported] at he
   |some x=>
    simp only [hf] at he ⊢;simp at he ⊢;exact he
theorem ranges_any {P:Program}{k e b r n:Nat}{D:DataW Unit}{left:Lit→Bool}{cnt:Nat}{w:World}(h:w.ranges P k (plainElem P e) b r n D left cnt) :
 ∃ob o,w.heap[b]?=some ob∧w.heap[r]?=some o∧∀(w':World) (r':Nat),w'.heap[b]?=some ob→w'.heap[r']?=some o→w'.ranges P k (plainElem P e) b r' (Maps.size D) D left cnt:=by
 obtain ⟨es,clock,since,seen,c0,hb,F,hs,hD,hr,rest⟩:=h;exact ⟨_,_,hb,hr,fun w' r' h1 h2=>⟨es,clock,since,seen,c0,h1,F,by subst hD;simp [Maps.size,length_sorted],hD,h2,rest⟩⟩
theorem sem1_range {d:Nat}{t:TypeId}{m:Operand}{k e:Nat}{Q:Obj→Prop}(hd:o.dst=some d)(hn:d<C.fn.ntmps)(ho:o.op = .range t m)(ht:C.P.underlying t=some (.map k e))(K:Keyed C.P k){A:DataW Unit→Prop}(hm:ev m = .rom Q)(hQ:∀o,Q o→mapQ C.P k e A o) :
 Sem1 C o ev [] ⟨.ptr (.loc d) 0,[(.loc d,some (.iter (iterQ C.P k e A (fun _=>False) none)))]⟩:=by
 refine sem1_of (fun d' h=>by rw [hd] at h;cases h;exact hn) fun L hd' F a w hev hfp hnew hi=>?_;obtain ⟨m1,m2⟩:=hnew (.loc d) (by simp [news]);have e1:=hev m (by simp [ho,Op.operands]);rw [hm] at e1;generalize hz:a.eval m=z at e1;cases e1 with
 |rom _ j ob h1 h2 h3=>
  obtain ⟨D,hD,hown⟩:=mapQ_owns h2 (hQ _ h3);obtain ⟨es,clock,hb,F',hs,rfl⟩:=hown;have hown:w.ownsMap C.P k (plainElem C.P e) j (Maps.size (DataW.map ((es.toList.map (rg C.P k (plainElem C.P e))).foldr DataW.insert []))) (DataW.map ((es.toList.map (rg C.P k (plainElem C.P e))).foldr DataW.insert [])):=⟨es,clock,hb,F',hs,rfl⟩;obtain ⟨w',hrun,hr,_⟩:=hown.range K ht;have hrun':=run_range_map w t k e j es clock ht hb;rw [hrun] at hrun';have hw:w'=w.alloc (.mapIter (some j) clock #[] clock):=by
   have:=hrun';simp only [Result.ok.injEq] at this;exact this.2
  subst hw;obtain ⟨ob',o',p1,p2,p3⟩:=ranges_any hr;have hjl:j<w.heap.size:=(hi.fin j h1).1;have hold:(w.alloc (.mapIter (some j) clock #[] clock)).heap[j]?=w.heap[j]?:=Below.heap_alloc _ _ _ hjl;obtain ⟨hd2,g1,g2⟩:=inv_obj hi (r:=.loc d) (by simp) m1 m2 (.mapIter (some j) clock #[] clock) (.iter (iterQ C.P k e A (fun _=>False) none)) (fun hd2 h=>⟨_,o',j,ob',h,p2,h1,p1,(fun kv h=>by cases h),_,_,_,hD,p3,fun kl=>by simp⟩);refine ⟨_,_,hd2,F,.inl ?_,g1,.ptr _ 0 (.pointer (some ⟨w.heap.size,0,none⟩)) rfl fun k hk=>by rw [g2] at hk;cases hk;rfl⟩;simp [execOp,ho,hz,hrun,Result.andThen]
theorem stepN_next {L:LS}{ops:Array Oper}{it:Operand}{r:Nm}{k e:Nat}(hg:guardOf ops o L=some true)(hdst:∀d,o.dst=some d→d<C.fn.ntmps)(ho:o.op = .next it false)(K:Keyed C.P k)(hk1:∀key kl,keyOf C.P k key=some kl→key.oneCell'=true){A:DataW Unit→Prop}{T:Lit→Prop}{last:Option (Value × Value)}
 (hit:L.ev it = .ptr r 0) (hb:L.blk r=some (.iter (iterQ C.P k e A T last))) :
 StepN C ops o L fun L'=>(∃D,A D∧(∀kl,Maps.has D kl=true→T kl)∧L'=L.put o.dst (.tup [.pv (.val (.bool false))]))∨
  ∃D kl key v y,A D∧Maps.has D kl=true∧¬T kl∧keyOf C.P k key=some kl∧plainElem (H:=Unit) C.P e v=some y∧(∀zd,D.atKey kl zd=y.1)∧
   L'=(L.upd [(r,some (.iter (iterQ C.P k e A (fun x=>T x∨x=kl) (some (key,v)))))]).put o.dst (.tup [.pv (.val (.bool true)),.pv (.val key),.pv (.val v)]):=by
 refine ⟨hg,fun hd F a w hi J Q hJ=>?_⟩;have e1:=ev_rep hi it;rw [hit] at e1;have hbb:=hi.blocks r;rw [hb] at hbb;obtain ⟨j,oj,b,ob,q1,q2,q3,q4,_,D,left,cnt,hD,hr,hl⟩:=hbb;have e1:a.eval it = .pointer (some ⟨j,0,none⟩):=by cases e1 with|ptr _ _ _ _ h=>exact h j q1
 have hr0:=hr w j q4 q2;unfold Oper.wp;rcases hr0.next K o.type with ⟨_,h0,hrun⟩|⟨key,v,kl,y,w',cnt',s1,s2,s3,s4,hrun,s5,s6,s7,s8,s9⟩
 ·have:(execOp a.eval o).run C.P w = .ok (.value (.tuple #[.bool false])) w:=by simp [execOp,ho,e1,hrun,Result.andThen]
  rw [this];refine hJ _ _ _ hd F (.inl ⟨D,hD,fun kl hkl=>?_,rfl⟩) (hi.put o.dst (.tup _ [.bool false] rfl fun j c u h1 h2=>?_) hdst)
  ·cases hc:left kl with
   |true=>rw [h0 kl] at hc;cases hc
   |false=>
    have:=hl kl;rw [hc] at this;exact Classical.byContradiction fun hn=>by simpa using this.2 ⟨hkl,hn⟩
  ·cases j with
   |zero=>simp at h1 h2;subst h1 h2;exact rep_val rfl
   |succ j=>simp at h1
 ·have:(execOp a.eval o).run C.P w = .ok (.value (.tuple #[.bool true,key,v])) w':=by simp [execOp,ho,e1,hrun,Result.andThen]
  rw [this];obtain ⟨h1,h2⟩:=(hl kl).1 s2;obtain ⟨ob',oj',p1,p2,p3⟩:=ranges_any s5;have hbF:b≠j:=fun e=>(hi.mine r j (by rw [q1];exact rfl)).1 (e ▸ q3);have hinv:=inv_turn hi q1 (.iter (iterQ C.P k e A (fun x=>T x∨x=kl) (some (key,v)))) s7 s8 ⟨j,oj',b,ob',q1,p2,q3,p1,(fun kv h=>by
   cases h;exact fun w2 r2 a1 a2=>entry_any s5 (a1.trans p1.symm) (a2.trans p2.symm) s9),D,_,cnt',hD,p3,fun x=>by
   simp only [Bool.and_eq_true,Bool.not_eq_true',hl x];constructor
   ·rintro ⟨⟨a1,a2⟩,a3⟩
    refine ⟨a1,fun h=>?_⟩;rcases h with h|h
    ·exact a2 h
    ·subst h;rw [WideAt.sameKey_self (K.key s1)] at a3;cases a3
   ·rintro ⟨a1,a2⟩
    refine ⟨⟨a1,fun h=>a2 (.inl h)⟩,?_⟩;cases hs:x.sameKey kl
    ·rfl
    ·exact absurd (.inr (WideAt.sameKey_eq hs)) a2⟩
  have hv1:v.oneCell'=true:=by
   unfold plainElem at s3;split at s3
   ·rfl
   ·rfl
   ·rfl
   ·cases s3
  refine hJ _ _ _ hd F (.inr ⟨D,kl,key,v,y,hD,h1,h2,s1,s3,s4,rfl⟩) (hinv.put o.dst (.tup _ [.bool true,key,v] rfl fun j c u h1 h2=>?_) hdst)
  match j,h1,h2 with
  |0,h1,h2=>simp at h1 h2;subst h1 h2;exact rep_val rfl
  |1,h1,h2=>simp at h1 h2;subst h1 h2;exact rep_val (hk1 _ _ s1)
  |2,h1,h2=>simp at h1 h2;subst h1 h2;exact rep_val hv1
theorem sem1_entry {it:Operand}{r:Nm}{k e:Nat}(hdst:∀d,o.dst=some d→d<C.fn.ntmps)(ho:o.op = .entry it){A:DataW Unit→Prop}{T:Lit→Prop}{kv:Value × Value}(h1:kv.1.oneCell'=true)(h2:kv.2.oneCell'=true)
 (hit:ev it = .ptr r 0):Sem1 C o ev [(r,.iter (iterQ C.P k e A T (some kv)))] ⟨.tup [.pv (.val kv.1),.pv (.val kv.2)],[]⟩:=by
 refine sem1_read hdst fun L hd F a w hev hfp hi=>?_;have e1:=hev it (by simp [ho,Op.operands]);rw [hit] at e1;have hb:=hi.blocks r;rw [hfp (r,.iter (iterQ C.P k e A T (some kv))) (by simp)] at hb;obtain ⟨j,oj,b,ob,q1,q2,q3,q4,hlast,_⟩:=hb;have e1:a.eval it = .pointer (some ⟨j,0,none⟩):=by cases e1 with|ptr _ _ _ _ h=>exact h j q1
 refine ⟨_,by simp [execOp,ho,e1,hlast kv rfl w j q4 q2,Result.andThen],.tup _ [kv.1,kv.2] rfl fun j c u h3 h4=>?_⟩
 match j,h3,h4 with
 |0,h3,h4=>simp at h3 h4;subst h3 h4;exact rep_val h1
 |1,h3,h4=>simp at h3 h4;subst h3 h4;exact rep_val h2
end
end Go.Abs
namespace Go.Abs
open Go.RowKit Go.ChangeMaps Go.MapKept
open Go.Maps (Keyed Tidy IsMap)
structure SetD (N:Nat) (S:Nat→Prop) (D:DataW Unit):Prop where
 has:∀kl,Maps.has D kl=true↔∃i:Nat,kl = .int .i64 i∧S i
 le:∀i,S i→i≤N
 val:∀i z,S i→D.atKey (.int .i64 (i:Nat)) z = .lit (.int .i64 1)
open Classical in
noncomputable def cardN (N:Nat)(S:Nat→Prop):Nat:=((List.range (N+1)).filter fun i=>decide (S i)).length
theorem cardN_le (N:Nat)(S:Nat→Prop):cardN N S≤N+1:=by
 unfold cardN;have:=List.length_filter_le (fun i=>@decide (S i) (Classical.propDecidable _)) (List.range (N+1));simpa using this
theorem filter_mono {α:Type}{p q:α→Bool}(h:∀x,p x=true→q x=true):∀l:List α,(l.filter p).Sublist (l.filter q)
 |[]=>by simp
 |x::l=>by
  have ih:=filter_mono h l;cases hp:p x
  ·cases hq:q x
   ·simpa [hp,hq] using ih
   ·simpa [hp,hq] using ih.cons x
  ·simpa [hp,h x hp] using ih.cons_cons x
theorem cardN_mono {N:Nat}{S T:Nat→Prop}(h:∀i,S i→T i):cardN N S≤cardN N T:=by
 unfold cardN;exact (filter_mono (fun i hi=>by simpa using h i (by simpa using hi)) _).length_le
theorem cardN_eq {N:Nat}{S T:Nat→Prop}(h:∀i,S i→T i)(he:cardN N T=cardN N S)(i:Nat)(hN:i≤N)(hi:T i):S i:=by
 unfold cardN at he;have hs:=filter_mono (p:=fun i=>@decide (S i) (Classical.propDecidable _)) (q:=fun i=>@decide (T i) (Classical.propDecidable _)) (fun i hi=>by simpa using h i (by simpa using hi)) (List.range (N+1));have:=hs.eq_of_length he.symm;have hm:i∈(List.range (N+1)).filter (fun i=>@decide (T i) (Classical.propDecidable _)):=by simp [hi];omega
 rw [←this] at hm;simpa using (List.mem_filter.1 hm).2
theorem cardN_lt {N:Nat}{S T:Nat→Prop}(h:∀i,S i→T i)(i:Nat)(hN:i≤N)(hi:T i)(hn:¬S i):cardN N S<cardN N T:=by
 rcases Nat.lt_or_ge (cardN N S) (cardN N T) with h1|h1
 ·exact h1
 ·exact absurd (cardN_eq h (Nat.le_antisymm h1 (cardN_mono h)) i hN hi) hn
theorem SetD.empty (N:Nat):SetD N (fun _=>False) (.map []):=⟨fun kl=>by simp [Maps.has],fun i h=>h.elim,fun i z h=>h.elim⟩
theorem key_int (i:Int):WideAt.IsKeyLit (.int .i64 i):=by simp [WideAt.IsKeyLit]
theorem SetD.put {N:Nat}{S:Nat→Prop}{D:DataW Unit}(h:SetD N S D)(hD:IsMap D){i:Nat}(hi:i≤N):SetD N (fun j=>S j∨j=i) (D.put (.int .i64 (i:Nat)) (.lit (.int .i64 1))):=by
 refine ⟨fun kl=>?_,fun j hj=>?_,fun j z hj=>?_⟩
 ·by_cases hk:kl = .int .i64 (i:Nat)
  ·subst hk;rw [Maps.has_put_same hD (key_int _)];simp;exact ⟨i,rfl,.inr rfl⟩
  ·rw [Maps.has_put_other hk,h.has kl];constructor
   ·rintro ⟨j,rfl,hj⟩;exact ⟨j,rfl,.inl hj⟩
   ·rintro ⟨j,rfl,hj|rfl⟩
    ·exact ⟨j,rfl,hj⟩
    ·exact absurd rfl hk
 ·rcases hj with hj|rfl
  ·exact h.le j hj
  ·exact hi
 ·by_cases hji:j=i
  ·subst hji;exact Maps.atKey_put_same hD (key_int _) _ _
  ·rw [Maps.atKey_put_other (by simp;omega)];exact h.val j z (by rcases hj with hj|hj;exact hj;exact absurd hj hji)
theorem nodup_map_int:∀(l:List (Lit × DataW Unit)) (m:List Nat),l.Pairwise (fun p q=>p.1≠q.1)→(∀p∈l,∃i∈m,p.1 = .int .i64 (i:Nat))→l.length≤m.length
 |[],m,_,_=>by simp
 |p::l,m,hp,hm=>by
  obtain ⟨h1,h2⟩:=List.pairwise_cons.1 hp;obtain ⟨i,hi,e⟩:=hm p (by simp);have:=nodup_map_int l (m.erase i) h2 (fun q hq=>by
   obtain ⟨j,hj,e'⟩:=hm q (by simp [hq]);refine ⟨j,?_,e'⟩;have:j≠i:=fun h=>h1 q hq (by rw [e,e',h]);exact (List.mem_erase_of_ne this).2 hj)
  rw [List.length_erase_of_mem hi] at this;have:0<m.length:=List.length_pos_of_mem hi;simp;omega
theorem len_le_map:∀(m:List Nat) (l:List (Lit × DataW Unit)),m.Nodup→(∀i∈m,∃p∈l,p.1 = .int .i64 (i:Nat))→m.length≤l.length
 |[],l,_,_=>by simp
 |i::m,l,hn,hm=>by
  obtain ⟨h1,h2⟩:=List.nodup_cons.1 hn;obtain ⟨p,hp,e⟩:=hm i (by simp);obtain ⟨l1,l2,rfl⟩:=List.append_of_mem hp;have:=len_le_map m (l1++l2) h2 (fun j hj=>by
   obtain ⟨q,hq,e'⟩:=hm j (by simp [hj]);refine ⟨q,?_,e'⟩;rcases List.mem_append.1 hq with h|h
   ·simp [h]
   ·rcases List.mem_cons.1 h with rfl|h
    ·rw [e] at e';simp at e';exact absurd (by omega:i=j) (fun e=>h1 (e ▸ hj))
    ·simp [h])
  simp at this ⊢;omega
theorem SetD.size {N:Nat}{S:Nat→Prop}{D:DataW Unit}(h:SetD N S D)(hT:Clean D):Maps.size D=cardN N S:=by
 obtain ⟨es,rfl,hp,hk⟩:=hT;have hmem:∀p∈es,∃i∈(List.range (N+1)).filter (fun i=>@decide (S i) (Classical.propDecidable _)),p.1 = .int .i64 (i:Nat):=by
  intro p hp';have:Maps.has (.map es) p.1=true:=List.any_eq_true.2 ⟨p,hp',WideAt.sameKey_self (hk p hp')⟩;obtain ⟨i,e,hi⟩:=(h.has p.1).1 this;have:=h.le i hi;exact ⟨i,by simp [hi];omega,e⟩
 refine Nat.le_antisymm (nodup_map_int es _ hp hmem) (len_le_map _ es (List.nodup_range.filter _) fun i hi=>?_);simp at hi;obtain ⟨p,hp',e⟩:=List.any_eq_true.1 ((h.has (.int .i64 (i:Nat))).2 ⟨i,rfl,hi.2⟩);exact ⟨p,hp',WideAt.sameKey_eq e⟩
abbrev setQ (P:Program)(k e N:Nat)(S:Nat→Prop):Obj→Prop:=mapQ P k e (SetD N S)
end Go.Abs
namespace Go.Abs
open Go.RowKit Go.ChangeMaps Go.MapKept
open Go.Maps (Keyed Tidy IsMap)
structure IntMap (P:Program) (t k e:Nat):Prop where
 ht:P.underlying t=some (.map k e)
 hk:P.underlying k=some (.int .i64)
 he:P.underlying e=some (.int .i64)
 zero:∀w,(zeroValue e).run P w = .ok (.int .i64 0) w
abbrev iterS (P:Program)(k e N:Nat)(S T:Nat→Prop)(last:Option Nat):Nat→Obj→Obj→Prop:=
 iterQ P k e (SetD N S) (fun kl=>∃i:Nat,kl = .int .i64 i∧T i) (last.map fun i=>(.int .i64 (i:Nat),.int .i64 1))
theorem wf64 {i:Int}(h : -9223372036854775808≤i∧i<9223372036854775808):(Lit.int .i64 i).wf=true:=by
 have e1:IntKind.i64.min = -9223372036854775808:=by decide
 have e2:IntKind.i64.max=9223372036854775807:=by decide
 simp only [Lit.wf,e1,e2,Bool.and_eq_true,decide_eq_true_eq];omega
section
variable {C:Ctx} {P:Program} {Gl:Granted} {T:TT} {n:Nat} {rs:List ResultVar} {v:AV} {post:List (Nm × Option Blk)} {ops:Array Oper} {i:Nat} {o:Oper} {opl:List Oper} {done:List Trace} {todo:List Item} {L:LS}
theorem Rd.makeSet (h:Rd C P Gl T n rs v post){d t:Nat}(k e N:Nat)(h1:o.op = .makeMap t none)(h2:o.dst=some d)(hs:Nat.blt d n=true∧guardOf ops o L=some true∧newOk L (.loc d)=true)
 (hnext:Go C (.reg ops false (i+1) opl [] todo (L.app o.dst ⟨.hmap (.loc d),[(.loc d,some (.raw (setQ P k e N fun _=>False)))]⟩))):Go C (.reg ops false i (o::opl) done todo L):=by
 obtain ⟨h3,h4,h5⟩:=hs;obtain ⟨n1,n2⟩:=newOk_spec h5;have:=h.prog;subst this;exact reg_step h4 (sem1_makeMap h2 (by rw [h.n];exact Nat.blt_eq.mp h3) h1 k e _ (SetD.empty N)) (by simp) (fun r hr=>by
  simp [news] at hr;subst hr;exact ⟨n1,n2,by simp [mayMake1,h2,h1,makes]⟩) rfl hnext
theorem Rd.setPut (h:Rd C P Gl T n rs v post){t k e:Nat}(hM:IntMap P t k e)(r:Nm){m x y:Operand}{N j:Nat}{S:Nat→Prop}(hN:N+1<maxLen)(hj:j≤N)
 (h1:o.op = .mapUpdate t m x y∨o.op = .insert t m x y) (hs:guardOf ops o L=some true∧dstOk n o=true∧L.ev m = .hmap r∧L.ev x = .pv (.val (.int .i64 (j:Nat)))∧L.ev y = .pv (.val (.int .i64 1))∧L.blk r=some (.raw (setQ P k e N S)))
 (hnext:Go C (.reg ops false (i+1) opl [] todo (L.app o.dst ⟨.any,[(r,some (.raw (setQ P k e N fun i=>S i∨i=j)))]⟩))):Go C (.reg ops false i (o::opl) done todo L):=by
 obtain ⟨h2,h3,h4,h5,h6,h7⟩:=hs;have:=h.prog;subst this;have hj64:(Lit.int .i64 (j:Nat)).wf=true:=wf64 (by simp only [maxLen] at hN;omega);exact reg_step h2 (sem1_update (fun d hd=>by rw [h.n];exact dstOk_spec h3 d hd) h1 hM.ht (Maps.int_keyed hM.hk) h4 h5 h6 (Maps.keyOf_int_mk hM.hk hj64) (plainElem_int hM.he (by decide)) (A:=SetD N S) (A':=SetD N fun i=>S i∨i=j) (fun D hD hA=>⟨by
  rw [hA.size hD];have:=cardN_le N S;omega,hA.put hD.isMap hj⟩)) (by simpa using h7) (fun q hq=>by simp [news,Nm.eqb_iff] at hq) rfl hnext
open Classical in
theorem Rd.setHas (h:Rd C P Gl T n rs v post){t k e:Nat}(hM:IntMap P t k e){m x:Operand}{N j:Nat}{S:Nat→Prop}(hj:j<9223372036854775808)
 (h1:o.op = .lookup t m x false) (hs:guardOf ops o L=some true∧dstOk n o=true∧L.ev m = .rom (setQ P k e N S)∧L.ev x = .pv (.val (.int .i64 (j:Nat))))
 (hnext:Go C (.reg ops false (i+1) opl [] todo (L.app o.dst ⟨.pv (.val (.int .i64 (if S j then 1 else 0))),[]⟩))):Go C (.reg ops false i (o::opl) done todo L):=by
 obtain ⟨h2,h3,h4,h5⟩:=hs;have:=h.prog;subst this;refine reg_step (fp:=[]) h2 (sem1_lookup (fun d hd=>by rw [h.n];exact dstOk_spec h3 d hd) h1 hM.ht hM.he hM.zero (Maps.int_keyed hM.hk) (A:=SetD N S) [] (.inl ⟨_,h4,fun o ho=>ho⟩) h5 (Maps.keyOf_int_mk hM.hk (wf64 (by omega))) (fun D hA=>?_)) (by simp) (by simp [news]) rfl hnext;by_cases hS:S j
 ·rw [hA.val j _ hS,if_pos hS]
 ·rw [if_neg hS];refine Maps.atKey_of_not_has ?_ _;cases hh:Maps.has D (.int .i64 (j:Nat)) with
  |false=>rfl
  |true=>
   obtain ⟨i,e,hi⟩:=(hA.has _).1 hh;simp at e;have:i=j:=(by omega);exact absurd (this ▸ hi) hS
theorem Rd.setLen (h:Rd C P Gl T n rs v post){t k e:Nat}(hM:IntMap P t k e)(r:Nm){m:Operand}{N:Nat}{S:Nat→Prop}
 (h1:o.op = .call { callee:=.builtin .len,args:=#[m],argTypes:=#[t] }) (hs:guardOf ops o L=some true∧dstOk n o=true∧L.ev m = .hmap r∧L.blk r=some (.raw (setQ P k e N S)))
 (hnext:Go C (.reg ops false (i+1) opl [] todo (L.app o.dst ⟨.pv (.val (.int .i64 (cardN N S:Nat))),[]⟩))):Go C (.reg ops false i (o::opl) done todo L):=by
 obtain ⟨h2,h3,h4,h5⟩:=hs;have:=h.prog;subst this;exact reg_step h2 (sem1_lenMap (fun d hd=>by rw [h.n];exact dstOk_spec h3 d hd) h1 rfl rfl rfl hM.ht h4 (fun D hD hA=>by rw [SetD.size hA hD]) (Maps.int_keyed hM.hk)) (by simpa using h5) (by simp [news]) rfl hnext
theorem Rd.setRange (h:Rd C P Gl T n rs v post){t k e:Nat}(hM:IntMap P t k e){d:Nat}{m:Operand}{N:Nat}{S:Nat→Prop}
 (h1:o.op = .range t m) (h2:o.dst=some d) (hs:Nat.blt d n=true∧guardOf ops o L=some true∧newOk L (.loc d)=true∧L.ev m = .rom (setQ P k e N S))
 (hnext:Go C (.reg ops false (i+1) opl [] todo (L.app o.dst ⟨.ptr (.loc d) 0,[(.loc d,some (.iter (iterS P k e N S (fun _=>False) none)))]⟩))):Go C (.reg ops false i (o::opl) done todo L):=by
 obtain ⟨h3,h4,h5,h6⟩:=hs;obtain ⟨n1,n2⟩:=newOk_spec h5;have:=h.prog;subst this;have e0:(fun kl:Lit=>∃i:Nat,kl=Lit.int .i64 i∧False)=fun _=>False:=by funext kl;simp
 refine reg_step h4 (sem1_range h2 (by rw [h.n];exact Nat.blt_eq.mp h3) h1 hM.ht (Maps.int_keyed hM.hk) h6 (fun o ho=>ho)) (by simp) (fun r hr=>by
  simp [news] at hr;subst hr;exact ⟨n1,n2,by simp [mayMake1,h2,h1,makes]⟩) rfl ?_
 simp only [iterS,e0,Option.map_none] at hnext;exact hnext
theorem Rd.setNext (h:Rd C P Gl T n rs v post){t k e:Nat}(hM:IntMap P t k e)(r:Nm){it:Operand}{N:Nat}{S M:Nat→Prop}{last:Option Nat}
 (h1:o.op = .next it false) (hs:guardOf ops o L=some true∧dstOk n o=true∧L.ev it = .ptr r 0∧L.blk r=some (.iter (iterS P k e N S M last)))
 (hdone:(∀j,S j→M j)→Go C (.reg ops false (i+1) opl [] todo (L.put o.dst (.tup [.pv (.val (.bool false))]))))
 (hstep:∀j,S j→¬M j→j≤N→Go C (.reg ops false (i+1) opl [] todo ((L.upd [(r,some (.iter (iterS P k e N S (fun i=>M i∨i=j) (some j))))]).put o.dst (.tup [.pv (.val (.bool true)),.pv (.val (.int .i64 (j:Nat))),.pv (.val (.int .i64 1))])))) :
 Go C (.reg ops false i (o::opl) done todo L):=by
 obtain ⟨h2,h3,h4,h5⟩:=hs;have:=h.prog;subst this;refine reg_stepN _ (stepN_next h2 (fun d hd=>by rw [h.n];exact dstOk_spec h3 d hd) h1 (Maps.int_keyed hM.hk) (fun key kl hk=>by
  obtain ⟨x,rfl,_⟩:=Maps.keyOf_int_inv hM.hk hk;rfl) h4 h5) fun L1 hL1=>?_
 rcases hL1 with ⟨D,hD,hall,rfl⟩|⟨D,kl,key,val,y,hD,hh,hn,hkey,hval,hat,rfl⟩
 ·refine hdone fun j hj=>?_;obtain ⟨i,e,hi⟩:=hall _ ((hD.has (.int .i64 (j:Nat))).2 ⟨j,rfl,hj⟩);simp at e;have:j=i:=by omega
  exact this ▸ hi
 ·obtain ⟨j,rfl,hj⟩:=(hD.has kl).1 hh;obtain ⟨x,rfl,e1,_⟩:=Maps.keyOf_int_inv hM.hk hkey;simp at e1;obtain ⟨a,rfl,rfl,_⟩:=plainElem_int_inv hM.he hval;have h1':=hat (.lit (.int .i64 0));rw [hD.val j _ hj] at h1';simp at h1';subst h1' e1;have hM':¬M j:=fun hm=>hn ⟨j,rfl,hm⟩;have e0:(fun x:Lit=>(∃i:Nat,x=Lit.int .i64 i∧M i)∨x=Lit.int .i64 (j:Nat))=fun kl=>∃i:Nat,kl=Lit.int .i64 i∧(M i∨i=j):=by
   funext kl;apply propext;constructor
   ·rintro (⟨i,rfl,hi⟩|rfl)
    ·exact ⟨i,rfl,.inl hi⟩
    ·exact ⟨j,rfl,.inr rfl⟩
   ·rintro ⟨i,rfl,hi|rfl⟩
    ·exact .inl ⟨i,rfl,hi⟩
    ·exact .inr rfl
  have hst:=hstep j hj hM' (hD.le j hj);simp only [iterS,Option.map_some] at hst;rw [e0];exact hst
theorem Rd.setEntry (h:Rd C P Gl T n rs v post)(r:Nm){it:Operand}{k e N j:Nat}{S M:Nat→Prop}
 (h1:o.op = .entry it) (hs:guardOf ops o L=some true∧dstOk n o=true∧L.ev it = .ptr r 0∧L.blk r=some (.iter (iterS P k e N S M (some j))))
 (hnext:Go C (.reg ops false (i+1) opl [] todo (L.app o.dst ⟨.tup [.pv (.val (.int .i64 (j:Nat))),.pv (.val (.int .i64 1))],[]⟩))):Go C (.reg ops false i (o::opl) done todo L):=by
 obtain ⟨h2,h3,h4,h5⟩:=hs;have:=h.prog;subst this;exact reg_step h2 (sem1_entry (fun d hd=>by rw [h.n];exact dstOk_spec h3 d hd) h1 (kv:=(.int .i64 (j:Nat),.int .i64 1)) rfl rfl h4) (by simpa [iterS] using h5) (by simp [news]) rfl hnext
end
theorem fun_own {P:Program}{Gl:Granted}{g:FuncId}{a b:List AV}{Q:Obj→Prop}{v:AV}(ha:∀x∈a++b,x.ments = [])(hv:v.ments = [])(h:Fun P Gl g (a++.rom Q::b) [] v []):Fun P Gl g (a++.hmap (.arg 0)::b) [some (.raw Q)] v [none]:=by
 refine ⟨h.fn,fun w0 F0 hd0 cargs hg hl hlen hr=>?_⟩;have h0:=hl.holds (.arg 0);simp [keyed,lkH,Nm.eqb] at h0;obtain ⟨k,o,q1,q2,q3⟩:=h0;have hk:=hl.mine (.arg 0) k (by rw [q1];exact rfl);have hx:∀(x:AV) (c:Value),Rep w0 F0 hd0 x c→x.ments = []→Rep w0 (fun j=>F0 j∨j=k) (fun _=>.dead) x c:=fun x c hc hm=>hc.mono (fun _ _=>rfl) (fun _ h=>.inl h) fun r hr=>by rw [hm] at hr;cases hr
 refine (h.calls w0 (fun j=>F0 j∨j=k) (fun _=>.dead) cargs (Gl.mono hg (fun _ _=>rfl) fun _ h=>.inl h) ⟨fun j hj=>?_,fun r s j _ hj=>hj.elim,fun r j hj=>hj.elim,fun r=>rfl⟩ (by simpa using hlen) fun j x c hj hc=>?_).mono fun e w' he=>?_
 ·rcases hj with hj|rfl
  ·exact hl.fin j hj
  ·exact hk.2
 ·by_cases hja:j<a.length
  ·rw [List.getElem?_append_left hja] at hj;exact hx x c (hr j x c (by rw [List.getElem?_append_left hja];exact hj) hc) (ha x (List.mem_append.2 (.inl (List.mem_of_getElem? hj))))
  ·rw [List.getElem?_append_right (by omega)] at hj;have hr':=fun y=>hr j y c;rw [List.getElem?_append_right (by omega)] at hr';cases hm:j-a.length with
   |zero=>
    rw [hm] at hj hr';simp at hj;subst hj;have:=hr' (.hmap (.arg 0)) (by simp) hc;cases this with
    |hmap _ _ _ hh=>
     obtain rfl:=hh k q1;exact .rom Q k o (.inr rfl) q2 q3
   |succ m=>
    rw [hm] at hj hr';simp at hj;exact hx x c (hr' x (by simpa using hj) hc) (ha x (List.mem_append.2 (.inr (List.mem_of_getElem? hj))))
 ·obtain ⟨cv,F,hd,rfl,hrep,hlies,hleft⟩:=he;have hd':∀r,hd r = .dead:=fun r=>hlies.holds r;refine ⟨cv,F,hd,rfl,hrep,⟨hlies.fin,hlies.sep,hlies.mine,fun r=>?_⟩,⟨fun r j hj=>?_,fun j hj=>?_,fun j hj=>hleft.more j (.inl hj),fun i=>.inr (hd' _),hleft.os,hleft.tape,hleft.output,hleft.size,fun j hj hn=>hleft.old j hj fun ⟨s,hs⟩=>hs.elim⟩⟩
  ·have:lkH (keyed 0 [none]) r=none:=(by simp [keyed,lkH]);rw [this];exact hd' r
  ·rw [hd' r] at hj;exact hj.elim
  ·rcases hleft.fin j hj with (h1|rfl)|h1|⟨s,hs⟩
   ·exact .inl h1
   ·exact .inr (.inr ⟨.arg 0,by rw [q1];exact rfl⟩)
   ·exact .inr (.inl h1)
   ·exact hs.elim
end Go.Abs
namespace Go.Abs
open Go.RowKit
theorem fun_args {P:Program}{Gl:Granted}{g:FuncId}{args args':List AV}{pre post:List (Option Blk)}{v:AV}(h:Fun P Gl g args pre v post)(hl:args'.length=args.length)
 (ha:∀(j:Nat) (x y:AV),args'[j]?=some x→args[j]?=some y→∀(w:World) (F:Nat→Prop) (hd:Nm→Hd) (c:Value),Rep w F hd x c→Rep w F hd y c):Fun P Gl g args' pre v post:=by
 refine ⟨h.fn,fun w0 F0 hd0 cargs hg hli hlen hr=>h.calls w0 F0 hd0 cargs hg hli (hlen.trans hl) fun j y c hj hc=>?_⟩;have:j<args'.length:=by rw [hl];exact (List.getElem?_eq_some_iff.1 hj).1
 exact ha j _ y (List.getElem?_eq_getElem this) hj _ _ _ _ (hr j _ c (List.getElem?_eq_getElem this) hc)
theorem rep_nil {sz sz':Nat}{w:World}{F:Nat→Prop}{hd:Nm→Hd}{c:Value}(h:Rep w F hd (.pv (.nilS sz')) c):Rep w F hd (.pv (.ro sz [])) c:=by
 cases h with
 |pv _ _ hp=>
  cases hp;exact .pv _ _ (.ro sz [] none 0 (fun _ _=>undef) (fun _=>rfl) (by simp) (by simp) (fun i e h=>by simp at h) (fun h=>absurd rfl h) (fun i j e c h=>by simp at h))
theorem nil_row {x:AV}{sz sz':Nat}(j:Nat)(y z:AV)(h1 : [x,.pv (.nilS sz')][j]?=some y)(h2 : [x,.pv (.ro sz [])][j]?=some z)(w:World)(F:Nat→Prop)(hd:Nm→Hd)(c:Value)(h:Rep w F hd y c):Rep w F hd z c:=by
 match j,h1,h2 with
 |0,h1,h2=>simp at h1 h2;subst h1 h2;exact h
 |1,h1,h2=>simp at h1 h2;subst h1 h2;exact rep_nil h
theorem fun_ownRow {P:Program}{Gl:Granted}{g:FuncId}{a b:List AV}{e sz:Nat}{es:List (List PV)}{v:AV}(ha:∀x∈a++b,x.ments = [])(hv:v.ments = [])(h:Fun P Gl g (a++.pv (.ro sz es)::b) [] v []):Fun P Gl g (a++.own (.arg 0)::b) [some (.row e sz es)] v [none]:=by
 refine ⟨h.fn,fun w0 F0 hd0 cargs hg hl hlen hr=>?_⟩;have h0:=hl.holds (.arg 0);simp [keyed,lkH,Nm.eqb] at h0;obtain ⟨u,cells,q1,q2,q3,q4,q5⟩:=h0;have hk:∀k,u.ownBlock=some k→¬F0 k∧k<w0.heap.size:=fun k hk=>hl.mine (.arg 0) k (by rw [q1];exact hk);have hx:∀(x:AV) (c:Value),Rep w0 F0 hd0 x c→x.ments = []→Rep w0 (fun j=>F0 j∨u.ownBlock=some j) (fun _=>.dead) x c:=fun x c hc hm=>hc.mono (fun _ _=>rfl) (fun _ h=>.inl h) fun r hr=>by rw [hm] at hr;cases hr
 refine (h.calls w0 (fun j=>F0 j∨u.ownBlock=some j) (fun _=>.dead) cargs (Gl.mono hg (fun _ _=>rfl) fun _ h=>.inl h) ⟨fun j hj=>?_,fun r s j _ hj=>hj.elim,fun r j hj=>hj.elim,fun r=>rfl⟩ (by simpa using hlen) fun j x c hj hc=>?_).mono fun e' w' he=>?_
 ·rcases hj with hj|hj
  ·exact hl.fin j hj
  ·exact (hk j hj).2
 ·by_cases hja:j<a.length
  ·rw [List.getElem?_append_left hja] at hj;exact hx x c (hr j x c (by rw [List.getElem?_append_left hja];exact hj) hc) (ha x (List.mem_append.2 (.inl (List.mem_of_getElem? hj))))
  ·rw [List.getElem?_append_right (by omega)] at hj;have hr':=fun y=>hr j y c;rw [List.getElem?_append_right (by omega)] at hr';cases hm:j-a.length with
   |zero=>
    rw [hm] at hj hr';simp at hj;subst hj;have:=hr' (.own (.arg 0)) (by simp) hc;cases this with
    |own _ _ _ hh=>
     obtain rfl:=hh u q1;exact .pv _ _ (row_ro q2 q3 (fun i j el c u' a1 a2 a3=>(q4 i j el c u' a1 a2 a3).mono (fun _ _=>rfl) (fun _ h=>.inl h)) (fun k hk'=>.inr hk'))
   |succ m=>
    rw [hm] at hj hr';simp at hj;exact hx x c (hr' x (by simpa using hj) hc) (ha x (List.mem_append.2 (.inr (List.mem_of_getElem? hj))))
 ·obtain ⟨cv,F,hd,rfl,hrep,hlies,hleft⟩:=he;have hd':∀r,hd r = .dead:=fun r=>hlies.holds r;refine ⟨cv,F,hd,rfl,hrep,⟨hlies.fin,hlies.sep,hlies.mine,fun r=>?_⟩,⟨fun r j hj=>?_,fun j hj=>?_,fun j hj=>hleft.more j (.inl hj),fun i=>.inr (hd' _),hleft.os,hleft.tape,hleft.output,hleft.size,fun j hj hn=>hleft.old j hj fun ⟨s,hs⟩=>hs.elim⟩⟩
  ·have:lkH (keyed 0 [none]) r=none:=(by simp [keyed,lkH]);rw [this];exact hd' r
  ·rw [hd' r] at hj;exact hj.elim
  ·rcases hleft.fin j hj with (h1|h1)|h1|⟨s,hs⟩
   ·exact .inl h1
   ·exact .inr (.inr ⟨.arg 0,by rw [q1];exact h1⟩)
   ·exact .inr (.inl h1)
   ·exact hs.elim
end Go.Abs
