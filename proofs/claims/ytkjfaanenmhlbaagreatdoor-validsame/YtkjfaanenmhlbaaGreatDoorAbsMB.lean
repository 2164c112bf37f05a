/-
  ROWS SEEN OTHERWISE; is a slice nil?
-/
import Derived.Test.YtkjfaanenmhlbaaGreatDoorAbsR
import Derived.Lib.SliceRun
import Derived.Sort.KeysCollected
set_option linter.unusedVariables false
set_option linter.unusedSimpArgs false
namespace Go.Abs
open Go.RowKit
theorem go_blk {C:Ctx}{todo:List Item}{L:LS}(r:Nm)(b b':Blk)(hb:L.blk r=some b)(hh:∀w F hd,HoldB w F hd r (some b)→HoldB w F hd r (some b'))(hk:Go C (.top todo (L.upd [(r,some b')]))):Go C (.top todo L):=by
 intro hd F a w hi cs;refine hk hd F a w { hi with slots:=fun t=>hi.slots t,blocks:=fun s=>?_,ntmps:=hi.ntmps,defers:=hi.defers } cs;have h1:=hi.blocks s;rw [upd_get];by_cases hs:r=s
 ·subst hs;rw [hb] at h1;simpa [upsGet] using hh w F hd h1
 ·simpa [upsGet,hs] using h1
theorem repP_empty {w:World}{F:Nat→Prop}{n m:Nat}{v:Value}(h:RepP w F (.ro n []) v):RepP w F (.ro m []) v:=by
 cases h with
 |ro _ _ A cap u hA hc hm hl ha hr=>exact .ro m [] A cap u hA hc hm (fun i e h=>by simp at h) (fun h=>absurd rfl h) (fun i j e c h=>by simp at h)
def likeP (c c':PV):Prop:=c=c'∨∃n m,c = .ro n []∧c' = .ro m []
theorem likeP_rep {w:World}{F:Nat→Prop}{c c':PV}{v:Value}(h:likeP c c')(hc:RepP w F c v):RepP w F c' v:=by
 rcases h with rfl|⟨n,m,rfl,rfl⟩
 ·exact hc
 ·exact repP_empty hc
theorem hold_like {w:World}{F:Nat→Prop}{hd:Nm→Hd}{r:Nm}{e sz:Nat}{es es':List (List PV)}(hl:es'.length=es.length)
 (hc:∀(i:Nat) (el':List PV),es'[i]?=some el'→∃el,es[i]?=some el∧el'.length=el.length∧∀(j:Nat) (c':PV),el'[j]?=some c'→∃c,el[j]?=some c∧likeP c c')
 (h:HoldB w F hd r (some (.row e sz es))):HoldB w F hd r (some (.row e sz es')):=by
 obtain ⟨v,cells,h1,h2,h3,h4,h5⟩:=h;refine ⟨v,cells,h1,by rw [hl];exact h2,fun i el' hi=>?_,fun i j el' c' u hi hj hu=>?_,h5⟩
 ·obtain ⟨el,g1,g2,_⟩:=hc i el' hi;rw [g2];exact h3 i el g1
 ·obtain ⟨el,g1,_,g3⟩:=hc i el' hi;obtain ⟨c,k1,k2⟩:=g3 j c' hj;exact likeP_rep k2 (h4 i j el c u g1 k1 hu)
theorem hold_last {w:World}{F:Nat→Prop}{hd:Nm→Hd}{r:Nm}{e:Nat}{es:List (List PV)}{n m:Nat}(h:HoldB w F hd r (some (.row e 1 (es++[[.ro n []]])))):HoldB w F hd r (some (.row e 1 (es++[[.ro m []]]))):=by
 refine hold_like (by simp) (fun i el' hi=>?_) h;by_cases hlt:i<es.length
 ·rw [List.getElem?_append_left hlt] at hi ⊢;exact ⟨el',hi,rfl,fun j c' hj=>⟨c',hj,.inl rfl⟩⟩
 ·rw [List.getElem?_append_right (by omega)] at hi ⊢
  match hk:i-es.length,hi with
  |0,hi=>
   simp at hi;subst hi;refine ⟨[.ro n []],rfl,rfl,fun j c' hj=>?_⟩
   match j,hj with
   |0,hj=>simp at hj;subst hj;exact ⟨_,rfl,.inr ⟨_,_,rfl,rfl⟩⟩
section
variable {C:Ctx} {P:Program} {Gl:Granted} {T:TT} {n:Nat} {rs:List ResultVar} {v:AV} {post:List (Nm × Option Blk)} {ops:Array Oper} {i:Nat} {o:Oper} {opl:List Oper} {done:List Trace} {todo:List Item} {L:LS}
theorem Rd.isNil (h:Rd C P Gl T n rs v post){t e ty:Nat}(ht:P.underlying t=some (.slice e)){x:Operand}{sz:Nat}{es:List (List PV)}(h1:o.op = .binOp .eql t x (.const (.slice none 0 0)) ty)
 (hs:guardOf ops o L=some true∧dstOk n o=true∧L.ev x = .pv (.ro sz es))
 (hnext:∀b:Bool,(es≠[]→b=false)→Go C (.reg ops false (i+1) opl [] todo (L.put o.dst (.pv (.val (.bool b)))))):Go C (.reg ops false i (o::opl) done todo L):=by
 obtain ⟨h2,h3,h4⟩:=hs;have:=h.prog;subst this;refine reg_stepN (fun L1=>∃b:Bool,(es≠[]→b=false)∧L1=L.put o.dst (.pv (.val (.bool b)))) ⟨h2,fun hd F a w hi J Q hJ=>?_⟩ fun L1 ⟨b,hb,e⟩=>by subst e;exact hnext b hb
 have e1:=ev_rep hi x;rw [h4] at e1;generalize hz:a.eval x=z at e1;cases e1 with
 |pv _ _ hp=>cases hp with
  |ro _ _ A cap u hA hc hm hl ha hr=>
   have hrun:(execOp a.eval o).run C.P w = .ok (.value (.bool A.isNone)) w:=by
    simp only [execOp,h1,hz];have:a.eval (.const (.slice none 0 0)) = .slice none 0 0:=rfl;rw [this];simp only [Sem.run_bind];rw [show eqGuard .eql t x (.const (.slice none 0 0)) (.slice A es.length cap) (.slice none 0 0)=pure () from rfl];simp [Lib.run_eql_slice_nil w t e A es.length cap 0 0 ht,Result.andThen]
   unfold Oper.wp;rw [hrun];refine hJ _ _ _ hd F ⟨A.isNone,fun hne=>?_,rfl⟩ (hi.put o.dst (.pv _ _ (.val _ rfl)) fun k hk=>by rw [h.n];exact dstOk_spec h3 k hk);obtain ⟨ad,g,_⟩:=ha hne;rw [g];rfl
end
end Go.Abs
namespace Go.Abs
open Go.RowKit
def layHd (r:Nm)(hd:Nm→Hd)(s:Nm):Hd:=if s=r then .dead else hd s
def layF (r:Nm)(hd:Nm→Hd)(F:Nat→Prop)(k:Nat):Prop:=F k∨(hd r).owns k
def evAt (ev:Operand→AV)(t:Nat)(x:AV):Operand→AV
 |.tmp s=>if s=t then x else ev (.tmp s)
 |y=>ev y
theorem inv_lay {C:Ctx}{L:LS}{hd:Nm→Hd}{F:Nat→Prop}{a:Act}{w:World}(hi:Inv C L hd F a w){r:Nm}{e sz t:Nat}{es:List (List PV)}(hb:L.blk r=some (.row e sz es))(ht:L.get t = .own r) :
 Inv C ((L.upd [(r,none)]).put (some t) (.pv (.ro sz es))) (layHd r hd) (layF r hd F) a w:=by
 have hF:∀k,F k→layF r hd F k:=fun k hk=>.inl hk;have hdead:∀s,layHd r hd s=hd s∨layHd r hd s = .dead:=fun s=>by
  unfold layHd;split
  ·exact .inr rfl
  ·exact .inl rfl
 have hown:∀s k,(layHd r hd s).owns k→(hd s).owns k∧s≠r:=fun s k hk=>by
  unfold layHd at hk;split at hk
  ·exact hk.elim
  ·exact ⟨hk,by assumption⟩
 have hrow:=hi.blocks r;rw [hb] at hrow;obtain ⟨v,cells,q1,q2,q3,q4,q5⟩:=hrow;have hval:a.tmps.getD t undef=v:=by
  have:=hi.slots t;rw [ht] at this;generalize a.tmps.getD t undef=z at this;cases this with
  |own _ _ _ h=>exact h v q1
 have hro:RepP w (layF r hd F) (.ro sz es) v:=row_ro q2 q3 (fun i j el c u h1 h2 h3=>(q4 i j el c u h1 h2 h3).mono (fun _ _=>rfl) hF) fun k hk=>.inr (by rw [q1];exact hk);refine { slots:=fun s=>?_,blocks:=fun s=>?_,sep:=fun s s' k hne h1 h2=>?_,mine:=fun s k hk=>?_,fin:=fun k hk=>?_,more:=fun k hk=>.inl (hi.more k hk),kept:=fun i=>?_,gl:=?_,os:=hi.os,tape:=hi.tape,output:=hi.output,size:=hi.size,old:=hi.old,ntmps:=hi.ntmps,defers:=hi.defers }
 ·rw [put_get];split
  ·rename_i hts;cases hts;rw [hval];exact .pv _ _ hro
  ·have:(L.upd [(r,none)]).get s=L.get s:=(by simp [LS.get,upd_blk]);rw [this];exact (hi.slots s).mono (fun _ _=>rfl) hF fun q _=>hdead q
 ·rw [put_blk,upd_get];by_cases hs:s=r
  ·subst hs;simp [upsGet,HoldB,layHd]
  ·have hs':¬r=s:=fun e=>hs e.symm;simp only [upsGet,if_neg hs',Option.getD_none];exact (hi.blocks s).mono (fun _ _=>rfl) hF (by simp [layHd,hs]) (fun _ _=>rfl) fun c _ q _=>hdead q
 ·exact hi.sep s s' k hne (hown s k h1).1 (hown s' k h2).1
 ·obtain ⟨h1,h2⟩:=hown s k hk;obtain ⟨m1,m2,m3⟩:=hi.mine s k h1;exact ⟨fun h=>h.elim m1 fun h3=>hi.sep s r k h2 h1 h3,m2,m3⟩
 ·rcases hk with hk|hk
  ·exact hi.fin k hk
  ·obtain ⟨m1,m2,m3⟩:=hi.mine r k hk;exact ⟨m2,.inr m3⟩
 ·rcases hdead (.arg i) with h|h
  ·rw [h];exact hi.kept i
  ·exact .inr h
 ·exact C.Gl.mono hi.gl (fun _ _=>rfl) hF
theorem evAt_get (L:LS)(r:Nm)(t:Nat)(x:AV):((L.upd [(r,none)]).put (some t) x).ev=evAt L.ev t x:=by
 funext y;cases y with
 |tmp s=>
  simp only [LS.ev,evAt];rw [put_get];by_cases h:s=t
  ·subst h;simp
  ·have h':¬t=s:=fun e=>h e.symm;simp [h,h',LS.get,upd_blk]
 |_=>rfl
theorem sem1_lay {C:Ctx}{o:Oper}{ev:Operand→AV}{t:Nat}{r:Nm}{e sz:Nat}{es:List (List PV)}{v:AV}(ht:ev (.tmp t) = .own r)(htop:Operand.tmp t∈o.op.operands.toList)(h:Sem1 C o (evAt ev t (.pv (.ro sz es))) [] ⟨v,[]⟩) :
 Sem1 C o ev [(r,.row e sz es)] ⟨v,[(r,none)]⟩:=by
 intro L hd F a w hev hfp hnew hi K Q hK;have hb:=hfp (r,.row e sz es) (by simp);have hgt:L.get t = .own r:=by
  have:=hev _ htop;rw [ht] at this;exact this
 refine h _ _ _ a w (fun x hx=>?_) (by simp) (by simp [news]) (inv_lay hi hb hgt) K Q fun a' w' hd' F' hi'=>hK a' w' hd' F' ?_
 ·rw [evAt_get];cases x with
  |tmp s=>
   simp only [evAt];split
   ·rfl
   ·exact hev _ hx
  |_=>exact hev _ hx
 ·have hrd:hd' r = .dead:=by
   have:=hi'.blocks r;rw [app_blk] at this;simp only [upsGet,Option.getD_none,put_blk,upd_get] at this;simpa [upsGet,HoldB] using this
  refine { hi' with slots:=fun s=>?_,blocks:=fun s=>?_,ntmps:=hi'.ntmps,defers:=hi'.defers }
  ·have h1:=hi'.slots s;rw [app_get] at h1 ⊢;by_cases hd0:o.dst=some s
   ·rw [if_pos hd0] at h1 ⊢;exact h1
   ·rw [if_neg hd0,put_get] at h1;rw [if_neg hd0];by_cases hts:t=s
    ·subst hts;rw [if_pos rfl] at h1;rw [hgt];cases h1 with
     |pv _ _ hp=>exact .own _ _ hp.one fun u hu=>by rw [hrd] at hu;cases hu
    ·rw [if_neg (fun e=>hts (Option.some.inj e))] at h1;simpa [LS.get,upd_blk] using h1
  ·have h1:=hi'.blocks s;rw [app_blk] at h1 ⊢;simpa [upsGet,put_blk,upd_get] using h1
section
variable {C:Ctx} {P:Program} {Gl:Granted} {T:TT} {n:Nat} {rs:List ResultVar} {v:AV} {post:List (Nm × Option Blk)} {ops:Array Oper} {draw:Bool} {i:Nat} {o:Oper} {opl:List Oper} {done:List Trace} {todo:List Item} {L:LS}
theorem Rd.buildLay (h:Rd C P Gl T n rs v post){ty t e sz:Nat}{r:Nm}{es:List (List PV)}(h1:o.op = .buildSlice ty 1 #[(0,.tmp t)])
 (hs:guardOf ops o L=some true∧dstOk n o=true∧L.ev (.tmp t) = .own r∧L.blk r=some (.row e sz es)∧stBuildSlice T [] (L.put (some t) (.pv (.ro sz es))) o.dst ty 1 [(0,.tmp t)] = .act [] ⟨.pv (.ro 1 [[.ro sz es]]),[]⟩ (1*1≤16777216)∧okPair ops draw done o ⟨i,[r],[r]⟩ [] opl=true)
 (hnext:Go C (.reg ops draw (i+1) opl (nexts o draw ⟨i,[r],[r]⟩ done) todo (L.app o.dst ⟨.pv (.ro 1 [[.ro sz es]]),[(r,none)]⟩))):Go C (.reg ops draw i (o::opl) done todo L):=by
 obtain ⟨h2,h3,h4,h5,h6,h7⟩:=hs;have:=h.prog;subst this;have hdst:∀d,o.dst=some d→d<C.fn.ntmps:=fun d hd=>by rw [h.n];exact dstOk_spec h3 d hd
 have hok:=stBuildSlice_ok (W:=[]) (L:=L.put (some t) (.pv (.ro sz es))) h.tok hdst h1;rw [show (#[(0,Operand.tmp t)]:Array (Nat × Operand)).toList = [(0,.tmp t)] from rfl,h6] at hok;obtain ⟨hsem,_,_⟩:=hok (by decide);have hev:(L.put (some t) (.pv (.ro sz es))).ev=evAt L.ev t (.pv (.ro sz es)):=by
  funext y;cases y with
  |tmp s=>
   simp only [LS.ev,evAt];rw [put_get];by_cases hst:s=t
   ·subst hst;simp
   ·have h':¬t=s:=fun e=>hst e.symm;simp [hst,h']
  |_=>rfl
 rw [hev] at hsem;exact reg_step h2 (sem1_lay (e:=e) h4 (by simp [h1,Op.operands]) hsem) (by simpa using h5) (fun q hq=>by simp [news,Nm.eqb_iff] at hq) (by simpa [upsMents,AV.ments] using h7) hnext
end
end Go.Abs
namespace Go.Abs
open Go.RowKit Go.MapKept
open Go.WideElems (rd rg)
open Go.Maps (Keyed)
theorem go_open {C:Ctx}{todo:List Item}{L:LS}{ι:Type}(t:Nat)(p:ι→Prop)(Qs:ι→World→(Nat→Prop)→Obj→Prop)
 (hmono:∀(i:ι) {w w':World} {F F':Nat→Prop} {o:Obj},Qs i w F o→(∀k,F k→w'.heap[k]?=w.heap[k]?)→(∀k,F k→F' k)→Qs i w' F' o)
 (ht:L.get t = .pv (.opq (mapAt fun w F o=>∃i,p i∧Qs i w F o))) (h:∀i,p i→Go C (.top todo (L.put (some t) (.pv (.opq (mapAt (Qs i))))))):Go C (.top todo L):=by
 intro hd F a w hi cs;have hs:=hi.slots t;rw [ht] at hs;generalize hv:a.tmps.getD t undef=v at hs;cases hs with
 |pv _ _ hp=>cases hp with
  |opq _ _ h1 hQ=>
   obtain ⟨k,o,rfl,hF,ho,i,hpi,hq⟩:=hQ w F (fun _ _=>rfl) (fun _ h=>h);refine h i hpi hd F a w { hi with slots:=fun s=>?_,blocks:=fun r=>?_,ntmps:=hi.ntmps,defers:=hi.defers } cs
   ·rw [put_get];by_cases hst:t=s
    ·subst hst;rw [if_pos rfl,hv];exact .pv _ _ (.opq _ _ rfl fun w2 F2 e1 e2=>⟨k,o,rfl,e2 k hF,(e1 k hF).trans ho,hmono i hq e1 e2⟩)
    ·rw [if_neg (fun e=>hst (Option.some.inj e))];exact hi.slots s
   ·rw [put_blk];exact hi.blocks r
theorem mapG_owns {P:Program}{k b:Nat}{m:Ents}{w:World}{F:Nat→Prop}{o:Obj}(hk:P.underlying k=some .string)(h:mapG P k m w F o)(hb:w.heap[b]?=some o)(hm:m.length≤maxLen) :
 ∃D:DataW Unit,w.ownsMap P k (fun _=>some (.nil,[])) b m.length D∧Maps.size D=m.length∧((strKeys D).map fun l=>Value.string ⟨l.toArray⟩).Perm (m.map (·.1)):=by
 have hks:=fun es clock (e:o = .map es clock)=>mapG_keys (P:=P) (k:=k) (l:=m) (w:=w) (F:=F) (es:=es) (clock:=clock) (e ▸ h);obtain ⟨es,clock,rfl,hst,hg,hsz,hr⟩:=h;have hks:=hks es clock rfl;have hrd:∀x∈es.toList,∃l:List UInt8,x.key = .string ⟨l.toArray⟩∧rd (H:=Unit) P k (fun _=>some (.nil,[])) x=some (.string l,.nil):=fun x hx=>by
  obtain ⟨kl,hkl⟩:=hks x hx;obtain ⟨l,h1,h2,_⟩:=Maps.keyOf_str hk hkl;subst h2;exact ⟨l,h1,by simp [rd,hkl]⟩
 have hmap:(es.toList.map (rg (H:=Unit) P k fun _=>some (.nil,[]))).map (fun p=>Value.string ⟨(strOf p.1).toArray⟩)=m.map (·.1):=by
  rw [List.map_map];refine List.ext_getElem? fun j=>?_;rw [List.getElem?_map,List.getElem?_map];by_cases hj:j<m.length
  ·have hje:j<es.size:=(by omega);have e1:es.toList[j]?=some es[j]:=(by simp);have e2:m[j]?=some m[j]:=(by simp [hj]);rw [e1,e2];obtain ⟨l,h1,h2⟩:=hrd es[j] (by simp);have h3:=(hr j es[j] m[j] (by simp) e2).1;simp only [Option.map_some,Function.comp,rg,h2,Option.getD_some,strOf];rw [←h3,h1]
  ·have e1:es.toList[j]?=none:=(by simp;omega);have e2:m[j]?=none:=(by simp;omega);rw [e1,e2];rfl
 refine ⟨.map ((es.toList.map (rg P k fun _=>some (.nil,[]))).foldr DataW.insert []),⟨es,clock,hb,⟨by omega,hst,fun x hx=>?_⟩,by omega,rfl⟩,?_,?_⟩
 ·obtain ⟨l,_,h2⟩:=hrd x hx;exact ⟨_,h2⟩
 ·simp [Maps.size,length_sorted,hsz]
 ·rw [←hmap];have h:=(WideShapes.sorted_perm (es.toList.map (rg (H:=Unit) P k fun _=>some (.nil,[])))).map fun p=>Value.string ⟨(strOf p.1).toArray⟩;simp only [strKeys,List.map_map];rw [List.map_map] at h;simpa [Function.comp_def] using h
end Go.Abs
namespace Go.Abs
open Go.RowKit
theorem funO_row {P:Program}{Gl:Granted}{g:FuncId}{args:List AV}{e sz:Nat}{es:List (List PV)}(hfn:∃fng,P.funcs[g]?=some fng∧(fng.name == "runtime.NumGoroutine")=false∧fng.body.isNone=false)(hes:∀el∈es,el.length=sz)
 (h:∀(w:World) (F:Nat→Prop) (cargs:List Value),(∀k,F k→k<w.heap.size)→cargs.length=args.length→(∀(j:Nat) (x:AV) (c:Value),args[j]?=some x→cargs[j]?=some c→Rep w F (fun _=>.dead) x c)→
   Calls P g cargs.toArray w fun e' w'=>∃v cells,e' = .returned v∧w'.ownsRow w.heap.size e sz v es.length cells∧(∀(i j:Nat) (el:List PV) (c:PV) (u:Value),es[i]?=some el→el[j]?=some c→cells[i*sz+j]?=some u→RepP w' F c u)∧(∀v∈cells,v.oneCell'=true)∧Below w.heap.size w w') :
 FunO P Gl g args [] (.own (.out 0)) [] [.row e sz es]:=by
 refine ⟨hfn,fun w0 F0 hd0 cargs hg hl hlen hr=>?_⟩;have hd:hd0=fun _=>.dead:=funext fun r=>hl.holds r;subst hd;refine (h w0 F0 cargs hl.fin hlen hr).mono ?_
 rintro e' w' ⟨v,cells,rfl,hrow,hrep,hone,hb⟩
 have hlt:=hrow.lt;have hown:∀r k,(if r=Nm.out 0 then Hd.row v else Hd.dead).owns k→r = .out 0∧v.ownBlock=some k:=fun r k hk=>by
  split at hk
  ·exact ⟨by assumption,hk⟩
  ·exact hk.elim
 refine ⟨v,F0,fun r=>if r = .out 0 then .row v else .dead,rfl,.own _ _ ?_ fun u hu=>by simpa using hu,⟨fun k hk=>Nat.lt_of_lt_of_le (hl.fin k hk) hb.size,fun r s k hne h1 h2=>?_,fun r k hk=>?_,fun r=>?_⟩,
  ⟨fun r k hk=>?_,fun k hk=>.inl hk,fun k hk=>hk,fun i=>.inl rfl,hb.os,hb.tape,hb.output,hb.size,fun k hk _=>hb.block k hk⟩⟩
 ·rcases hrow.2 with ⟨rfl,_⟩|⟨g,cap,cur,rfl,_⟩<;>rfl
 ·exact hne ((hown r k h1).1.trans (hown s k h2).1.symm)
 ·obtain ⟨_,h2⟩:=hown r k hk;have:=hlt k h2;exact ⟨fun hF=>by have:=hl.fin k hF;omega,this.2⟩
 ·by_cases hr0:r = .out 0
  ·subst hr0;refine ⟨v,cells,by simp,?_,fun i el hi=>hes el (List.mem_of_getElem? hi),hrep,hone⟩;obtain ⟨r1,r2⟩:=hrow;exact ⟨r1,r2.imp id fun ⟨g,cap,cur,q2,q3,q4⟩=>⟨g,cap,cur,q2,Nat.zero_le _,q4⟩⟩
  ·have:lkH (keyed 0 []++outs 0 [Blk.row e sz es]) r=none:=by
    simp only [keyed,outs,List.nil_append,lkH];rw [if_neg];rw [Nm.eqb_iff];exact fun e=>hr0 e.symm
   rw [this];simp [HoldB,hr0]
 ·obtain ⟨_,h2⟩:=hown r k hk;exact .inl (hlt k h2).1
theorem go_cut1 {C:Ctx}{ι:Type}(J:ι→LS){x:Item}{k:List Item}{L:LS}(hB:∀z,Go C (.top k (J z)))(hA:(∀z,Go C (.top k (J z)))→Go C (.top (x::k) L)):Go C (.top (x::k) L):=hA hB
theorem nil_of {w:World}{F:Nat→Prop}{hd:Nm→Hd}{sz:Nat}{v:Value}(h:Rep w F hd (.pv (.nilS sz)) v):v = .slice none 0 0:=by
 cases h with
 |pv _ _ h=>cases h;rfl
end Go.Abs
namespace Go.Abs
open Go.RowKit Go.ChangeMaps Go.MapKept
open Go.Maps (Keyed)
def mapE (P:Program)(k:Nat)(m:Ents)(p:Value × AV)(st:Nat)(w:World)(F:Nat→Prop)(o:Obj):Prop:=
 ∃es clock x,o = .map es clock∧mapG P k (m++[p]) w F (.map es clock)∧es[m.length]?=some x∧x.born=st
theorem mapE_mono {P:Program}{k:Nat}{m:Ents}{p:Value × AV}{st:Nat}{w w':World}{F F':Nat→Prop}{o:Obj}(h:mapE P k m p st w F o)(h1:∀k,F k→w'.heap[k]?=w.heap[k]?)(h2:∀k,F k→F' k):mapE P k m p st w' F' o:=by
 obtain ⟨es,clock,x,e,hG,hx,hb⟩:=h;exact ⟨es,clock,x,e,mapG_mono hG h1 h2,hx,hb⟩
section
variable {C:Ctx} {P:Program} {Gl:Granted} {T:TT} {n:Nat} {rs:List ResultVar} {v:AV} {post:List (Nm × Option Blk)} {ops:Array Oper} {i:Nat} {o:Oper} {opl:List Oper} {done:List Trace} {todo:List Item} {L:LS}
theorem Rd.mapLenN (h:Rd C P Gl T n rs v post){t k e:Nat}(ht:P.underlying t=some (.map k e)){x:Operand}{ι:Type}(p:ι→Prop)(m:ι→Ents)(h1:o.op = .call { callee:=.builtin .len,args:=#[x],argTypes:=#[t] })
 (hs:guardOf ops o L=some true∧dstOk n o=true) (hx:L.ev x = .pv (.opq (mapAt fun w F o=>∃i,p i∧mapG P k (m i) w F o)))
 (hnext:∀j,p j→Go C (.reg ops false (i+1) opl [] todo (L.put o.dst (.pv (.val (.int .i64 (m j).length)))))):Go C (.reg ops false i (o::opl) done todo L):=by
 obtain ⟨h2,h3⟩:=hs;have:=h.prog;subst this;refine reg_stepN (fun L1=>∃j,p j∧L1=L.put o.dst (.pv (.val (.int .i64 (m j).length)))) ⟨h2,fun hd F a w hi J Q hJ=>?_⟩ fun L1 ⟨j,hj,e⟩=>by subst e;exact hnext j hj
 have e1:=ev_rep hi x;rw [hx] at e1;generalize hz:a.eval x=z at e1;cases e1 with
 |pv _ _ hp=>cases hp with
  |opq _ _ _ hq=>
   obtain ⟨b,ob,rfl,_,h4,j,hj,h5⟩:=hq w F (fun _ _=>rfl) (fun _ h=>h);obtain ⟨es,clock,rfl,hst,hg,hsz,hr⟩:=h5;have hrun:(execOp a.eval o).run C.P w = .ok (.value (goInt (m j).length)) w:=by
    simp [execOp,h1,resolve,invoke,builtin,hz,Builtin.len_,run_underlying ht,getObj,Sem.run,h4,Result.andThen,goInt,hsz]
   unfold Oper.wp;rw [hrun];exact hJ _ _ _ hd F ⟨j,hj,rfl⟩ (hi.put o.dst (rep_val rfl) fun k hk=>by rw [h.n];exact dstOk_spec h3 k hk)
theorem Rd.entryNew (h:Rd C P Gl T n rs v post){t k e:Nat}(ht:P.underlying t=some (.map k e))(K:Keyed P k)(r:Nm){m x:Operand}{zero:AV}{z:Value}(hz:∀w,(zeroValue e).run P w = .ok z w)(hzr:∀(w:World) (F:Nat→Prop) (hd:Nm→Hd),Rep w F hd zero z)(hzm:zero.ments = []){key:Value}{kl:Lit}{l:Ents}
 (h1:o.op = .mapEntry t m x) (hx:keyIs (L.ev x) key) (hkey:keyOf P k key=some kl) (hf:∀p∈l,p.1≠key) (hs:guardOf ops o L=some true∧dstOk n o=true∧L.ev m = .hmap r∧L.blk r=some (.gen (mapG P k l)))
 (hnext:∀st:Nat,Go C (.reg ops false (i+1) opl [] todo ((L.upd [(r,some (.gen (mapE P k l (key,zero) st)))]).put o.dst (.tup [zero,.pv (.val (.int .i64 st))])))):Go C (.reg ops false i (o::opl) done todo L):=by
 obtain ⟨h2,h3,h4,h5⟩:=hs;have:=h.prog;subst this;refine reg_stepN (fun L1=>∃st:Nat,L1=(L.upd [(r,some (.gen (mapE C.P k l (key,zero) st)))]).put o.dst (.tup [zero,.pv (.val (.int .i64 st))])) ⟨h2,fun hd F a w hi J Q hJ=>?_⟩ fun L1 ⟨st,e⟩=>by subst e;exact hnext st
 have e1:=ev_rep hi m;have e2:=hx _ _ _ _ (ev_rep hi x);rw [h4] at e1;have hb:=hi.blocks r;rw [h5] at hb;obtain ⟨j,ob,q1,q2,q3⟩:=hb;have e1:a.eval m = .map (some j):=by cases e1 with|hmap _ _ _ h=>exact h j q1
 have hG:=q3 w F (fun _ _=>rfl) (fun _ h=>h);obtain ⟨es,clock,rfl,hst,hg,hsz,hr⟩:=id hG;have hjF:¬F j:=(hi.mine r j (by rw [q1];exact rfl)).1;have hfind:=(mapG_find K hG hkey).1 hf;have hkeys:∀x∈es.toList,x.key≠key:=fun x hx=>by
  obtain ⟨i,hi'⟩:=List.getElem?_of_mem hx;have hlt:=(List.getElem?_eq_some_iff.1 hi').1;have hp':l[i]?=some (l[i]'(by simp at hlt;omega)):=by simp
  rw [(hr i x _ (by simpa using hi') hp').1];exact hf _ (List.mem_of_getElem? hp')
 have hset:∀o',(setObj j o').run C.P w = .ok () (setBlock w j o'):=fun o'=>by simp [setObj,Sem.run,q2,setBlock]
 have hrun:(execOp a.eval o).run C.P w = .ok (.value (.tuple #[z,goInt clock])) (setBlock w j (.map (es.push { key,val:=z,born:=clock }) (clock+1))):=by
  simp [execOp,h1,e1,e2,Instr.mapEntry,run_underlying ht,getObj,Sem.run,q2,Result.andThen,K.check w false hkey,hfind,hset,hz]
 obtain ⟨g1,g2,g3⟩:=grown_set (o':=.map (es.push { key,val:=z,born:=clock }) (clock+1)) q2;have hG2:mapE C.P k l (key,zero) clock w F (.map (es.push { key,val:=z,born:=clock }) (clock+1)):=by
  refine ⟨_,_,{ key,val:=z,born:=clock },rfl,⟨_,_,rfl,stamped_push hst hkeys,fun p hp=>?_,by simp [hsz],fun i x p hx hp=>?_⟩,by rw [←hsz];simp,rfl⟩
  ·rcases List.mem_append.1 hp with hp|hp
   ·exact hg p hp
   ·simp at hp;subst hp;exact ⟨⟨_,hkey⟩,hzm⟩
  ·rw [Array.getElem?_push] at hx;by_cases hi':i=es.size
   ·rw [if_pos hi'] at hx;rw [List.getElem?_append_right (by omega),show i-l.length=0 by omega] at hp;simp at hx hp;subst hx hp;exact ⟨rfl,hzr _ _ _⟩
   ·rw [if_neg hi'] at hx;have:=(Array.getElem?_eq_some_iff.1 hx).1;rw [List.getElem?_append_left (by omega)] at hp;exact hr i x p hx hp
 unfold Oper.wp;rw [hrun];refine hJ _ _ _ hd F ⟨clock,rfl⟩ ((inv_turn hi q1 (.gen (mapE C.P k l (key,zero) clock)) g1 g2 ⟨j,_,q1,g3,fun w2 F2 a1 a2=>mapE_mono hG2 (fun i hi'=>?_) a2⟩).put o.dst (rep_pair (hzr _ _ _) (rep_val rfl)) fun k hk=>by rw [h.n];exact dstOk_spec h3 k hk);rw [a1 i hi'];exact (heap_set q2).2 i fun e=>hjF (e ▸ hi')
theorem Rd.entryPut (h:Rd C P Gl T n rs v post){t k:Nat}(r:Nm){m s x:Operand}{key:Value}{zero av:AV}{st:Nat}{l:Ents}(h1:o.op = .entryStore t m s x)
 (hs:guardOf ops o L=some true∧dstOk n o=true∧L.ev m = .hmap r∧L.ev s = .pv (.val (.int .i64 st))∧L.ev x=av∧av.ments = []∧L.blk r=some (.gen (mapE P k l (key,zero) st)))
 (hnext:Go C (.reg ops false (i+1) opl [] todo (L.app o.dst ⟨.any,[(r,some (.gen (mapG P k (l++[(key,av)]))))]⟩))):Go C (.reg ops false i (o::opl) done todo L):=by
 obtain ⟨h2,h3,h4,h5,h6,h7,h8⟩:=hs;have:=h.prog;subst this;have key1:Sem1 C o L.ev [(r,.gen (mapE C.P k l (key,zero) st))] ⟨.any,[(r,some (.gen (mapG C.P k (l++[(key,av)]))))]⟩:=by
  refine sem1_of (fun d hd=>by rw [h.n];exact dstOk_spec h3 d hd) fun L' hd F a w hev hfp hnew hi=>?_;have e1:=hev m (by simp [h1,Op.operands]);have e2:=hev s (by simp [h1,Op.operands]);have e3:=hev x (by simp [h1,Op.operands]);rw [h4] at e1;rw [h5] at e2;rw [h6] at e3;have e2:=bool_of e2;have hb:=hi.blocks r;rw [hfp (r,.gen (mapE C.P k l (key,zero) st)) (by simp)] at hb;obtain ⟨j,ob,q1,q2,q3⟩:=hb;have e1:a.eval m = .map (some j):=by cases e1 with|hmap _ _ _ h=>exact h j q1
  obtain ⟨es,clock,y,rfl,hG,hy,hyb⟩:=q3 w F (fun _ _=>rfl) (fun _ h=>h);obtain ⟨es',clock',e',hst,hg,hsz,hr⟩:=id hG;cases e';have hjF:¬F j:=(hi.mine r j (by rw [q1];exact rfl)).1;have hlsz:l.length<es.size:=by rw [hsz];simp
  have hyk:y.key=key:=(hr l.length y (key,zero) hy (by simp)).1;have hfi:es.findIdx? (fun e=>(e.born:Int) == (st:Int))=some l.length:=by
   rw [Array.findIdx?_eq_some_iff_getElem];have hye:es[l.length]=y:=by
    have:=Array.getElem?_eq_getElem hlsz;rw [this] at hy;exact Option.some.inj hy
   refine ⟨hlsz,by simp [hye,hyb],fun i hi'=>?_⟩;simp only [beq_iff_eq];intro e;have hnd:=hst.2.1;have h1:(es.toList.map (·.born))[i]?=some st:=by rw [List.getElem?_map,Array.getElem?_toList,Array.getElem?_eq_getElem (by omega)];simp;omega
   have h2:(es.toList.map (·.born))[l.length]?=some st:=(by rw [List.getElem?_map,Array.getElem?_toList,hy];simp [hyb]);have:=nodup_idx hnd h1 h2;omega
  have hset:∀o',(setObj j o').run C.P w = .ok () (setBlock w j o'):=fun o'=>by simp [setObj,Sem.run,q2,setBlock]
  have hrun:(Instr.entryStore t (.map (some j)) (.int .i64 st) (a.eval x)).run C.P w = .ok () (setBlock w j (.map (es.modify l.length fun e=>{ e with val:=a.eval x }) clock)):=by
   simp [Instr.entryStore,getObj,Sem.run,q2,Result.andThen,asInt,asIntOf,hfi,hset]
  have hval:Rep w F (fun _=>.dead) av (a.eval x):=e3.bare h7;obtain ⟨g1,g2,g3⟩:=grown_set (o':=.map (es.modify l.length fun e=>{ e with val:=a.eval x }) clock) q2;have hG2:mapG C.P k (l++[(key,av)]) w F (.map (es.modify l.length fun e=>{ e with val:=a.eval x }) clock):=by
   refine ⟨_,_,rfl,stamped_modify hst _ _ (fun _ _=>rfl) (fun x hx hx'=>rfl),fun p hp=>?_,by simp [hsz],fun i x' p hx hp=>?_⟩
   ·rcases List.mem_append.1 hp with hp|hp
    ·exact hg p (by simp [hp])
    ·simp at hp;subst hp;exact ⟨(hg (key,zero) (by simp)).1,h7⟩
   ·rw [Array.getElem?_modify] at hx;by_cases hi':l.length=i
    ·subst hi';rw [if_pos rfl,hy] at hx;simp at hx hp;subst hx hp;exact ⟨hyk,hval⟩
    ·rw [if_neg hi'] at hx;refine hr i x' p hx ?_;have:=(Array.getElem?_eq_some_iff.1 hx).1;have hlt:i<l.length:=by
      have:i<es.size:=this;rw [hsz] at this;simp at this;omega
     rw [List.getElem?_append_left hlt] at hp ⊢;exact hp
  refine ⟨_,_,hd,F,.inr ⟨?_,rfl⟩,inv_turn hi q1 (.gen (mapG C.P k (l++[(key,av)]))) g1 g2 ⟨j,_,q1,g3,fun w2 F2 a1 a2=>mapG_mono hG2 (fun i hi'=>?_) a2⟩,.any _⟩
  ·simp [execOp,h1,e1,e2,hrun,Result.andThen]
  ·rw [a1 i hi'];exact (heap_set q2).2 i fun e=>hjF (e ▸ hi')
 exact reg_step h2 key1 (by simpa using h8) (fun q hq=>by simp [news,Nm.eqb_iff] at hq) (by simp [okPair]) hnext
end
end Go.Abs
namespace Go.Abs
open Go.RowKit
theorem inv_layM {C:Ctx}{L:LS}{hd:Nm→Hd}{F:Nat→Prop}{a:Act}{w:World}(hi:Inv C L hd F a w){r:Nm}{t:Nat}{Q Q':World→(Nat→Prop)→Obj→Prop}(hQ:∀w F o,Q w F o→Q' w F o)(hb:L.blk r=some (.gen Q))(ht:L.get t = .hmap r) :
 Inv C ((L.upd [(r,none)]).put (some t) (.pv (.opq (mapAt Q')))) (layHd r hd) (layF r hd F) a w:=by
 have hF:∀k,F k→layF r hd F k:=fun k hk=>.inl hk;have hdead:∀s,layHd r hd s=hd s∨layHd r hd s = .dead:=fun s=>by
  unfold layHd;split
  ·exact .inr rfl
  ·exact .inl rfl
 have hown:∀s k,(layHd r hd s).owns k→(hd s).owns k∧s≠r:=fun s k hk=>by
  unfold layHd at hk;split at hk
  ·exact hk.elim
  ·exact ⟨hk,by assumption⟩
 have hrow:=hi.blocks r;rw [hb] at hrow;obtain ⟨j,ob,q1,q2,q3⟩:=hrow;have hval:a.tmps.getD t undef = .map (some j):=by
  have:=hi.slots t;rw [ht] at this;generalize a.tmps.getD t undef=z at this;cases this with
  |hmap _ _ _ h=>exact h j q1
 have hjF:layF r hd F j:=.inr (by rw [q1];exact rfl);have hro:RepP w (layF r hd F) (.opq (mapAt Q')) (.map (some j)):=.opq _ _ rfl fun w2 F2 e1 e2=>⟨j,ob,rfl,e2 j hjF,(e1 j hjF).trans q2,hQ _ _ _ (q3 w2 F2 (fun k hk=>e1 k (hF k hk)) (fun k hk=>e2 k (hF k hk)))⟩;refine { slots:=fun s=>?_,blocks:=fun s=>?_,sep:=fun s s' k hne h1 h2=>?_,mine:=fun s k hk=>?_,fin:=fun k hk=>?_,more:=fun k hk=>.inl (hi.more k hk),kept:=fun i=>?_,gl:=?_,os:=hi.os,tape:=hi.tape,output:=hi.output,size:=hi.size,old:=hi.old,ntmps:=hi.ntmps,defers:=hi.defers }
 ·rw [put_get];split
  ·rename_i hts;cases hts;rw [hval];exact .pv _ _ hro
  ·have:(L.upd [(r,none)]).get s=L.get s:=(by simp [LS.get,upd_blk]);rw [this];exact (hi.slots s).mono (fun _ _=>rfl) hF fun q _=>hdead q
 ·rw [put_blk,upd_get];by_cases hs:s=r
  ·subst hs;simp [upsGet,HoldB,layHd]
  ·have hs':¬r=s:=fun e=>hs e.symm;simp only [upsGet,if_neg hs',Option.getD_none];exact (hi.blocks s).mono (fun _ _=>rfl) hF (by simp [layHd,hs]) (fun _ _=>rfl) fun c _ q _=>hdead q
 ·exact hi.sep s s' k hne (hown s k h1).1 (hown s' k h2).1
 ·obtain ⟨h1,h2⟩:=hown s k hk;obtain ⟨m1,m2,m3⟩:=hi.mine s k h1;exact ⟨fun h=>h.elim m1 fun h3=>hi.sep s r k h2 h1 h3,m2,m3⟩
 ·rcases hk with hk|hk
  ·exact hi.fin k hk
  ·obtain ⟨m1,m2,m3⟩:=hi.mine r k hk;exact ⟨m2,.inr m3⟩
 ·rcases hdead (.arg i) with h|h
  ·rw [h];exact hi.kept i
  ·exact .inr h
 ·exact C.Gl.mono hi.gl (fun _ _=>rfl) hF
section
variable {C:Ctx} {P:Program} {Gl:Granted} {T:TT} {n:Nat} {rs:List ResultVar} {v:AV} {post:List (Nm × Option Blk)} {ops:Array Oper} {draw:Bool} {i:Nat} {o:Oper} {opl:List Oper} {done:List Trace} {todo:List Item} {L:LS}
end
theorem sem1_layMO {C:Ctx}{o:Oper}{ev:Operand→AV}{t:Nat}{r n:Nm}{b:Blk}{Q Q':World→(Nat→Prop)→Obj→Prop}(hQ:∀w F o,Q w F o→Q' w F o){v:AV}(hn:n≠r)(ht:ev (.tmp t) = .hmap r)(htop:Operand.tmp t∈o.op.operands.toList)(h:Sem1 C o (evAt ev t (.pv (.opq (mapAt Q')))) [] ⟨v,[(n,some b)]⟩) :
 Sem1 C o ev [(r,.gen Q)] ⟨v,[(r,none),(n,some b)]⟩:=by
 intro L hd F a w hev hfp hnew hi K R hK;have hb:=hfp (r,.gen Q) (by simp);have hgt:L.get t = .hmap r:=by
  have:=hev _ htop;rw [ht] at this;exact this
 have hrn:¬r=n:=fun e=>hn e.symm;have hrnb:r.eqb n=false:=by rw [Bool.eq_false_iff];exact fun e=>hrn ((Nm.eqb_iff _ _).1 e)
 obtain ⟨f1,f2,f3⟩:=hnew n (by simp [news,hrnb]);refine h _ _ _ a w (fun x hx=>?_) (by simp) (fun s hs=>?_) (inv_layM hi hQ hb hgt) K R fun a' w' hd' F' hi'=>hK a' w' hd' F' ?_
 ·rw [evAt_get];cases x with
  |tmp s=>
   simp only [evAt];split
   ·rfl
   ·exact hev _ hx
  |_=>exact hev _ hx
 ·simp [news] at hs;subst hs;refine ⟨by simp [put_blk,upd_get,upsGet,hrn,f1],fun t'=>?_,fun q b' hq=>?_⟩
  ·rw [put_get];split
   ·simp [AV.ments]
   ·have:(L.upd [(r,none)]).get t'=L.get t':=(by simp [LS.get,upd_blk]);rw [this];exact f2 t'
  ·rw [put_blk,upd_get] at hq;by_cases hrq:r=q
   ·simp [upsGet,hrq] at hq
   ·simp [upsGet,hrq] at hq;exact f3 q b' hq
 ·have hrd:hd' r = .dead:=by
   have:=hi'.blocks r;rw [app_blk] at this;simp only [upsGet,if_neg hn,Option.getD_none,put_blk,upd_get] at this;simpa [upsGet,HoldB] using this
  refine { hi' with slots:=fun s=>?_,blocks:=fun s=>?_,ntmps:=hi'.ntmps,defers:=hi'.defers }
  ·have h1:=hi'.slots s;rw [app_get] at h1 ⊢;by_cases hd0:o.dst=some s
   ·rw [if_pos hd0] at h1 ⊢;exact h1
   ·rw [if_neg hd0,put_get] at h1;rw [if_neg hd0];by_cases hts:t=s
    ·subst hts;rw [if_pos rfl] at h1;rw [hgt];cases h1 with
     |pv _ _ hp=>exact .hmap _ _ hp.one fun u hu=>by rw [hrd] at hu;cases hu
    ·rw [if_neg (fun e=>hts (Option.some.inj e))] at h1;simpa [LS.get,upd_blk] using h1
  ·have h1:=hi'.blocks s;rw [app_blk] at h1 ⊢;by_cases hsn:n=s
   ·subst hsn;simpa [upsGet] using h1
   ·simpa [upsGet,hsn,put_blk,upd_get] using h1
section
variable {C:Ctx} {P:Program} {Gl:Granted} {T:TT} {n:Nat} {rs:List ResultVar} {v:AV} {post:List (Nm × Option Blk)} {ops:Array Oper} {draw:Bool} {i:Nat} {o:Oper} {opl:List Oper} {done:List Trace} {todo:List Item} {L:LS}
theorem Rd.buildOwnM (h:Rd C P Gl T n rs v post){ty t e d:Nat}{r:Nm}(Q Q':World→(Nat→Prop)→Obj→Prop)(hQ:∀w F o,Q w F o→Q' w F o)(h1:o.op = .buildSlice ty 1 #[(0,.tmp t)])(h0:o.dst=some d)
 (hs:guardOf ops o L=some true∧dstOk n o=true∧L.ev (.tmp t) = .hmap r∧L.blk r=some (.gen Q)∧¬Nm.loc d=r∧newOk L (.loc d)=true) (hs2:stBuildSlice T [d] (L.put (some t) (.pv (.opq (mapAt Q')))) o.dst ty 1 [(0,.tmp t)] = .act [] ⟨.own (.loc d),[(.loc d,some (.row e 1 [[.opq (mapAt Q')]]))]⟩ (1*1≤16777216))
 (h7:okPair ops draw done o ⟨i,[r],[r,.loc d]⟩ [.loc d] opl=true)
 (hnext:Go C (.reg ops draw (i+1) opl (nexts o draw ⟨i,[r],[r,.loc d]⟩ done) todo (L.app o.dst ⟨.own (.loc d),[(r,none),(.loc d,some (.row e 1 [[.opq (mapAt Q')]]))]⟩))):Go C (.reg ops draw i (o::opl) done todo L):=by
 obtain ⟨h2,h3,h4,h5,h6,h8⟩:=hs;obtain ⟨n1,n2⟩:=newOk_spec h8;have:=h.prog;subst this;have hdst:∀d,o.dst=some d→d<C.fn.ntmps:=fun d hd=>by rw [h.n];exact dstOk_spec h3 d hd
 have hok:=stBuildSlice_ok (W:=[d]) (L:=L.put (some t) (.pv (.opq (mapAt Q')))) h.tok hdst h1;rw [show (#[(0,Operand.tmp t)]:Array (Nat × Operand)).toList = [(0,.tmp t)] from rfl,hs2] at hok;obtain ⟨hsem,_,_⟩:=hok (by decide);have hev:(L.put (some t) (.pv (.opq (mapAt Q')))).ev=evAt L.ev t (.pv (.opq (mapAt Q'))):=by
  funext y;cases y with
  |tmp s=>
   simp only [LS.ev,evAt];rw [put_get];by_cases hst:s=t
   ·subst hst;simp
   ·have h':¬t=s:=fun e=>hst e.symm;simp [hst,h']
  |_=>rfl
 rw [hev] at hsem;have hrd:¬r = .loc d:=fun e=>h6 e.symm;exact reg_step h2 (sem1_layMO hQ h6 h4 (by simp [h1,Op.operands]) hsem) (by simpa using h5) (fun q hq=>by
  have hq2:=List.mem_filter.1 hq;have hm:q=r∨q = .loc d:=by simpa using hq2.1
  rcases hm with rfl|rfl
  ·have:=hq2.2;simp [(Nm.eqb_iff q q).2 rfl] at this
  ·exact ⟨n1,n2,by simp [mayMake1,h0,h1,makes]⟩) (by simpa [upsMents,AV.ments,Blk.ments] using h7) hnext
end
end Go.Abs
namespace Go.Abs
open Go.RowKit Go.ChangeMaps Go.MapKept
open Go.Maps (Keyed)
def mapC (P:Program)(k:Nat)(m:Ents)(w:World)(F:Nat→Prop)(o:Obj):Prop:=∃es,o = .map es m.length∧mapG P k m w F (.map es m.length)
theorem mapC_mono {P:Program}{k:Nat}{m:Ents}{w w':World}{F F':Nat→Prop}{o:Obj}(h:mapC P k m w F o)(h1:∀k,F k→w'.heap[k]?=w.heap[k]?)(h2:∀k,F k→F' k):mapC P k m w' F' o:=by
 obtain ⟨es,e,hG⟩:=h;exact ⟨es,e,mapG_mono hG h1 h2⟩
def mapD (P:Program)(k:Nat)(m:Ents)(p:Value × AV)(w:World)(F:Nat→Prop)(o:Obj):Prop:=
 ∃es x,o = .map es (m.length+1)∧mapG P k (m++[p]) w F (.map es (m.length+1))∧es[m.length]?=some x∧x.born=m.length
theorem mapD_mono {P:Program}{k:Nat}{m:Ents}{p:Value × AV}{w w':World}{F F':Nat→Prop}{o:Obj}(h:mapD P k m p w F o)(h1:∀k,F k→w'.heap[k]?=w.heap[k]?)(h2:∀k,F k→F' k):mapD P k m p w' F' o:=by
 obtain ⟨es,x,e,hG,hx,hb⟩:=h;exact ⟨es,x,e,mapG_mono hG h1 h2,hx,hb⟩
theorem mapG_push {P:Program}{k:Nat}{l:Ents}{key:Value}{kl:Lit}{av:AV}{z:Value}{w:World}{F:Nat→Prop}{es:Array MapEntry}{clock:Nat}(hG:mapG P k l w F (.map es clock))(hkey:keyOf P k key=some kl)(hf:∀p∈l,p.1≠key)(hav:av.ments = [])(hz:Rep w F (fun _=>.dead) av z) :
 mapG P k (l++[(key,av)]) w F (.map (es.push { key,val:=z,born:=clock }) (clock+1)):=by
 obtain ⟨es',clock',e,hst,hg,hsz,hr⟩:=hG;cases e;have hkeys:∀x∈es.toList,x.key≠key:=fun x hx=>by
  obtain ⟨i,hi'⟩:=List.getElem?_of_mem hx;have hlt:=(List.getElem?_eq_some_iff.1 hi').1;have hp':l[i]?=some (l[i]'(by simp at hlt;omega)):=by simp
  rw [(hr i x _ (by simpa using hi') hp').1];exact hf _ (List.mem_of_getElem? hp')
 refine ⟨_,_,rfl,stamped_push hst hkeys,fun p hp=>?_,by simp [hsz],fun i x p hx hp=>?_⟩
 ·rcases List.mem_append.1 hp with hp|hp
  ·exact hg p hp
  ·simp at hp;subst hp;exact ⟨⟨_,hkey⟩,hav⟩
 ·rw [Array.getElem?_push] at hx;by_cases hi':i=es.size
  ·rw [if_pos hi'] at hx;rw [List.getElem?_append_right (by omega),show i-l.length=0 by omega] at hp;simp at hx hp;subst hx hp;exact ⟨rfl,hz⟩
  ·rw [if_neg hi'] at hx;have:=(Array.getElem?_eq_some_iff.1 hx).1;rw [List.getElem?_append_left (by omega)] at hp;exact hr i x p hx hp
theorem mapG_last {P:Program}{k:Nat}{l:Ents}{key:Value}{zero av:AV}{z:Value}{w:World}{F:Nat→Prop}{es:Array MapEntry}{clock:Nat}{y:MapEntry}(hG:mapG P k (l++[(key,zero)]) w F (.map es clock))(hy:es[l.length]?=some y)(hav:av.ments = [])(hz:Rep w F (fun _=>.dead) av z) :
 es.findIdx? (fun e=>(e.born:Int) == ((y.born:Nat):Int))=some l.length∧mapG P k (l++[(key,av)]) w F (.map (es.modify l.length fun e=>{ e with val:=z }) clock):=by
 obtain ⟨es',clock',e,hst,hg,hsz,hr⟩:=hG;cases e;have hlsz:l.length<es.size:=by rw [hsz];simp
 have hyk:y.key=key:=(hr l.length y (key,zero) hy (by simp)).1;have hye:es[l.length]=y:=by
  have:=Array.getElem?_eq_getElem hlsz;rw [this] at hy;exact Option.some.inj hy
 constructor
 ·rw [Array.findIdx?_eq_some_iff_getElem];refine ⟨hlsz,by simp [hye],fun i hi'=>?_⟩;simp only [beq_iff_eq];intro e;have hnd:=hst.2.1;have h1:(es.toList.map (·.born))[i]?=some y.born:=by rw [List.getElem?_map,Array.getElem?_toList,Array.getElem?_eq_getElem (by omega)];simp;omega
  have h2:(es.toList.map (·.born))[l.length]?=some y.born:=by rw [List.getElem?_map,Array.getElem?_toList,hy];simp
  have:=nodup_idx hnd h1 h2;omega
 ·refine ⟨_,_,rfl,stamped_modify hst _ _ (fun _ _=>rfl) (fun x hx hx'=>rfl),fun p hp=>?_,by simp [hsz],fun i x' p hx hp=>?_⟩
  ·rcases List.mem_append.1 hp with hp|hp
   ·exact hg p (by simp [hp])
   ·simp at hp;subst hp;exact ⟨(hg (key,zero) (by simp)).1,hav⟩
  ·rw [Array.getElem?_modify] at hx;by_cases hi':l.length=i
   ·subst hi';rw [if_pos rfl,hy] at hx;simp at hx hp;subst hx hp;exact ⟨hyk,hz⟩
   ·rw [if_neg hi'] at hx;refine hr i x' p hx ?_;have:=(Array.getElem?_eq_some_iff.1 hx).1;have hlt:i<l.length:=by
     have:i<es.size:=this;rw [hsz] at this;simp at this;omega
    rw [List.getElem?_append_left hlt] at hp ⊢;exact hp
section
variable {C:Ctx} {o:Oper} {ev:Operand→AV}
theorem sem1_mkC {d:Nat}{t:TypeId}(hd:o.dst=some d)(hn:d<C.fn.ntmps)(ho:o.op = .makeMap t none)(k:Nat) :
 Sem1 C o ev [] ⟨.hmap (.loc d),[(.loc d,some (.gen (mapC C.P k [])))]⟩:=by
 refine sem1_of (fun d' h=>by rw [hd] at h;cases h;exact hn) fun L hd' F a w hev hfp hnew hi=>?_;obtain ⟨m1,m2⟩:=hnew (.loc d) (by simp [news]);obtain ⟨hd2,h1,h2⟩:=inv_obj hi (r:=.loc d) (by simp) m1 m2 (.map #[] 0) (.gen (mapC C.P k [])) (fun hd2 h=>⟨_,_,h,heap_alloc_new w _,fun _ _ _ _=>⟨#[],rfl,mapG_made⟩⟩);refine ⟨.map (some w.heap.size),_,hd2,F,.inl ?_,h1,.hmap _ _ rfl fun k hk=>by rw [h2] at hk;cases hk;rfl⟩;simp [execOp,ho,run_makeMap,Result.andThen]
theorem sem1_turnM {r:Nm}{m:Operand}{Q Q':World→(Nat→Prop)→Obj→Prop}{v:AV}(hdst:∀d,o.dst=some d→d<C.fn.ntmps)(hmem:m∈o.op.operands.toList)(hm:ev m = .hmap r)
 (hmono:∀ {w w':World} {F F':Nat→Prop} {o:Obj},Q' w F o→(∀k,F k→w'.heap[k]?=w.heap[k]?)→(∀k,F k→F' k)→Q' w' F' o)
 (hrun:∀(L:LS) (hd:Nm→Hd) (F:Nat→Prop) (a:Act) (w:World) (j:Nat) (ob:Obj),(∀x∈o.op.operands.toList,Rep w F hd (ev x) (a.eval x))→a.eval m = .map (some j)→w.heap[j]?=some ob→Q w F ob→∃ob' u,Q' w F ob'∧(∀w' hd',Rep w' F hd' v u)∧
   ((execOp a.eval o).run C.P w = .ok (.value u) (setBlock w j ob')∨((execOp a.eval o).run C.P w = .ok .skip (setBlock w j ob')∧u=undef))) :
 Sem1 C o ev [(r,.gen Q)] ⟨v,[(r,some (.gen Q'))]⟩:=by
 refine sem1_of hdst fun L hd F a w hev hfp hnew hi=>?_;have e1:=hev m hmem;rw [hm] at e1;have hb:=hi.blocks r;rw [hfp (r,.gen Q) (by simp)] at hb;obtain ⟨j,ob,q1,q2,q3⟩:=hb;have e1:a.eval m = .map (some j):=by cases e1 with|hmap _ _ _ h=>exact h j q1
 have hjF:¬F j:=(hi.mine r j (by rw [q1];exact rfl)).1;obtain ⟨ob',u,hQ,hu,hr⟩:=hrun L hd F a w j ob hev e1 q2 (q3 w F (fun _ _=>rfl) (fun _ h=>h));obtain ⟨g1,g2,g3⟩:=grown_set (o':=ob') q2;refine ⟨u,_,hd,F,hr,inv_turn hi q1 (.gen Q') g1 g2 ⟨j,_,q1,g3,fun w2 F2 a1 a2=>hmono hQ (fun i hi'=>?_) a2⟩,hu _ _⟩;rw [a1 i hi'];exact (heap_set q2).2 i fun e=>hjF (e ▸ hi')
theorem findC {P:Program}{k:Nat}(K:Keyed P k){l:Ents}{w:World}{F:Nat→Prop}{es:Array MapEntry}{clock:Nat}(h:mapG P k l w F (.map es clock)){key:Value}{kl:Lit}(hkey:keyOf P k key=some kl)(hf:∀p∈l,p.1≠key):(Instr.findKey k key es.toList).run P w = .ok none w:=(mapG_find K h hkey).1 hf
theorem sem1_putC {r:Nm}{t k e:Nat}{m x v:Operand}(hdst:∀d,o.dst=some d→d<C.fn.ntmps)(ho:o.op = .mapUpdate t m x v∨o.op = .insert t m x v)(ht:C.P.underlying t=some (.map k e))(K:Keyed C.P k){key:Value}{kl:Lit}{av:AV}{l:Ents}
 (hm:ev m = .hmap r) (hx:keyIs (ev x) key) (hv:ev v=av) (hav:av.ments = []) (hkey:keyOf C.P k key=some kl) (hf:∀p∈l,p.1≠key) :
 Sem1 C o ev [(r,.gen (mapC C.P k l))] ⟨.any,[(r,some (.gen (mapC C.P k (l++[(key,av)]))))]⟩:=by
 refine sem1_turnM (m:=m) hdst (by rcases ho with ho|ho<;>simp [ho,Op.operands]) hm mapC_mono fun L hd F a w j ob hev e1 q2 hq=>?_;obtain ⟨es,rfl,hG⟩:=hq;have e2:=hx _ _ _ _ (hev x (by rcases ho with ho|ho<;>simp [ho,Op.operands]));have e3:=hev v (by rcases ho with ho|ho<;>simp [ho,Op.operands]);rw [hv] at e3;have hset:∀o',(setObj j o').run C.P w = .ok () (setBlock w j o'):=fun o'=>by simp [setObj,Sem.run,q2,setBlock]
 have hfind:=findC K hG hkey hf;have hrun:(Instr.mapUpdate t (.map (some j)) key (a.eval v)).run C.P w = .ok () (setBlock w j (.map (es.push { key,val:=a.eval v,born:=l.length }) (l.length+1))):=by
  simp [Instr.mapUpdate,run_underlying ht,getObj,Sem.run,q2,Result.andThen,K.check w false hkey,hfind,hset]
 refine ⟨.map (es.push { key,val:=a.eval v,born:=l.length }) (l.length+1),undef,?_,fun _ _=>.any _,.inr ⟨?_,rfl⟩⟩
 ·have hpush:=mapG_push hG hkey hf hav (e3.bare hav);exact ⟨es.push { key,val:=a.eval v,born:=l.length },by simp,by simpa using hpush⟩
 ·rcases ho with ho|ho<;>simp [execOp,ho,e1,e2,hrun,Result.andThen]
theorem sem1_getC {r:Nm}{t k e:Nat}{m x:Operand}{ok:Bool}(hdst:∀d,o.dst=some d→d<C.fn.ntmps)(ho:o.op = .lookup t m x ok)(ht:C.P.underlying t=some (.map k e))(K:Keyed C.P k){zero:AV}(hz:∃z,(∀w,(zeroValue e).run C.P w = .ok z w)∧∀(w:World) (F:Nat→Prop) (hd:Nm→Hd),Rep w F hd zero z){key:Value}{kl:Lit}{l:Ents}{y:AV}
 (hm:ev m = .hmap r) (hx:keyIs (ev x) key) (hkey:keyOf C.P k key=some kl) (hf:foundG l key zero ok y) :
 Sem1 C o ev [(r,.gen (mapC C.P k l))] ⟨y,[]⟩:=by
 refine sem1_read hdst fun L hd F a w hev hfp hi=>?_;have e1:=hev m (by simp [ho,Op.operands]);rw [hm] at e1;have hb:=hi.blocks r;rw [hfp (r,.gen (mapC C.P k l)) (by simp)] at hb;obtain ⟨j,ob,q1,q2,q3⟩:=hb;have e1:a.eval m = .map (some j):=by cases e1 with|hmap _ _ _ h=>exact h j q1
 obtain ⟨es,rfl,hG⟩:=q3 w F (fun _ _=>rfl) (fun _ h=>h);have e2:=hx _ _ _ _ (hev x (by simp [ho,Op.operands]));obtain ⟨f1,f2⟩:=mapG_find K hG hkey;obtain ⟨z,hz,hzr⟩:=hz;rcases hf with ⟨h1,rfl⟩|⟨av,h1,rfl⟩
 ·refine ⟨if ok then .tuple #[z,.bool false] else z,?_,?_⟩
  ·simp [execOp,ho,e1,e2,Instr.lookup,run_underlying ht,getObj,Sem.run,q2,Result.andThen,K.check w _ hkey,f1 h1,hz]
   try cases ok<;>rfl
  ·cases ok with
   |false=>exact hzr w F hd
   |true=>exact rep_pair (hzr w F hd) (rep_val rfl)
 ·obtain ⟨i,v,g1,g2,g3⟩:=f2 av h1;refine ⟨if ok then .tuple #[v,.bool true] else v,?_,?_⟩
  ·simp [execOp,ho,e1,e2,Instr.lookup,run_underlying ht,getObj,Sem.run,q2,Result.andThen,K.check w _ hkey,g1]
   try cases ok<;>rfl
  ·cases ok with
   |false=>exact g2.bare g3
   |true=>exact rep_pair (g2.bare g3) (rep_val rfl)
theorem sem1_entryC {r:Nm}{t k e:Nat}{m x:Operand}(hdst:∀d,o.dst=some d→d<C.fn.ntmps)(ho:o.op = .mapEntry t m x)(ht:C.P.underlying t=some (.map k e))(K:Keyed C.P k){zero:AV}{z:Value}(hz:∀w,(zeroValue e).run C.P w = .ok z w)(hzr:∀(w:World) (F:Nat→Prop) (hd:Nm→Hd),Rep w F hd zero z)(hzm:zero.ments = []){key:Value}{kl:Lit}{l:Ents}
 (hm:ev m = .hmap r) (hx:keyIs (ev x) key) (hkey:keyOf C.P k key=some kl) (hf:∀p∈l,p.1≠key) :
 Sem1 C o ev [(r,.gen (mapC C.P k l))] ⟨.tup [zero,.pv (.val (.int .i64 (l.length:Nat)))],[(r,some (.gen (mapD C.P k l (key,zero))))]⟩:=by
 refine sem1_turnM (m:=m) hdst (by simp [ho,Op.operands]) hm mapD_mono fun L hd F a w j ob hev e1 q2 hq=>?_;obtain ⟨es,rfl,hG⟩:=hq;have e2:=hx _ _ _ _ (hev x (by simp [ho,Op.operands]));have hset:∀o',(setObj j o').run C.P w = .ok () (setBlock w j o'):=fun o'=>by simp [setObj,Sem.run,q2,setBlock]
 have hfind:=findC K hG hkey hf;obtain ⟨es',clock',e',hst,hg,hsz,hr⟩:=id hG;cases e';refine ⟨.map (es.push { key,val:=z,born:=l.length }) (l.length+1),.tuple #[z,goInt l.length],?_,fun w' hd'=>rep_pair (hzr _ _ _) (rep_val rfl),.inl ?_⟩
 ·exact ⟨_,{ key,val:=z,born:=l.length },rfl,mapG_push hG hkey hf hzm (hzr _ _ _),by rw [←hsz];simp,rfl⟩
 ·simp [execOp,ho,e1,e2,Instr.mapEntry,run_underlying ht,getObj,Sem.run,q2,Result.andThen,K.check w false hkey,hfind,hset,hz]
theorem sem1_storeC {r:Nm}{t k:Nat}{m s x:Operand}{zero av:AV}{key:Value}{l:Ents}(hdst:∀d,o.dst=some d→d<C.fn.ntmps)(ho:o.op = .entryStore t m s x)
 (hm:ev m = .hmap r) (hs:ev s = .pv (.val (.int .i64 (l.length:Nat)))) (hx:ev x=av) (hav:av.ments = []) :
 Sem1 C o ev [(r,.gen (mapD C.P k l (key,zero)))] ⟨.any,[(r,some (.gen (mapC C.P k (l++[(key,av)]))))]⟩:=by
 refine sem1_turnM (m:=m) hdst (by simp [ho,Op.operands]) hm mapC_mono fun L hd F a w j ob hev e1 q2 hq=>?_;obtain ⟨es,y,rfl,hG,hy,hyb⟩:=hq;have e2:=hev s (by simp [ho,Op.operands]);have e3:=hev x (by simp [ho,Op.operands]);rw [hs] at e2;rw [hx] at e3;have e2:=bool_of e2;have hset:∀o',(setObj j o').run C.P w = .ok () (setBlock w j o'):=fun o'=>by simp [setObj,Sem.run,q2,setBlock]
 obtain ⟨hfi,hG2⟩:=mapG_last (av:=av) hG hy hav (e3.bare hav);rw [hyb] at hfi;have hrun:(Instr.entryStore t (.map (some j)) (.int .i64 (l.length:Nat)) (a.eval x)).run C.P w = .ok () (setBlock w j (.map (es.modify l.length fun e=>{ e with val:=a.eval x }) (l.length+1))):=by
  simp [Instr.entryStore,getObj,Sem.run,q2,Result.andThen,asInt,asIntOf,hfi,hset]
 refine ⟨.map (es.modify l.length fun e=>{ e with val:=a.eval x }) (l.length+1),undef,⟨es.modify l.length fun e=>{ e with val:=a.eval x },by simp,by simpa using hG2⟩,fun _ _=>.any _,.inr ⟨?_,rfl⟩⟩;simp [execOp,ho,e1,e2,hrun,Result.andThen]
end
section
variable {C:Ctx} {P:Program} {Gl:Granted} {T:TT} {n:Nat} {rs:List ResultVar} {v:AV} {post:List (Nm × Option Blk)} {ops:Array Oper} {draw:Bool} {i:Nat} {o:Oper} {opl:List Oper} {done:List Trace} {todo:List Item} {L:LS}
theorem Rd.makeC (h:Rd C P Gl T n rs v post){d t:Nat}(k:Nat)(h1:o.op = .makeMap t none)(h2:o.dst=some d)(hs:Nat.blt d n=true∧guardOf ops o L=some true∧newOk L (.loc d)=true∧okPair ops draw done o ⟨i,[],[.loc d]⟩ [.loc d] opl=true)
 (hnext:Go C (.reg ops draw (i+1) opl (nexts o draw ⟨i,[],[.loc d]⟩ done) todo (L.app o.dst ⟨.hmap (.loc d),[(.loc d,some (.gen (mapC P k [])))]⟩))):Go C (.reg ops draw i (o::opl) done todo L):=by
 obtain ⟨h3,h4,h5,h6⟩:=hs;obtain ⟨n1,n2⟩:=newOk_spec h5;have:=h.prog;subst this;exact reg_step h4 (sem1_mkC h2 (by rw [h.n];exact Nat.blt_eq.mp h3) h1 k) (by simp) (fun r hr=>by
  simp [news] at hr;subst hr;exact ⟨n1,n2,by simp [mayMake1,h2,h1,makes]⟩) h6 hnext
theorem Rd.putC (h:Rd C P Gl T n rs v post){t k e:Nat}(ht:P.underlying t=some (.map k e))(K:Keyed P k)(r:Nm){m x y:Operand}{key:Value}{kl:Lit}{av:AV}{l:Ents}(h1:o.op = .mapUpdate t m x y∨o.op = .insert t m x y)(hx:keyIs (L.ev x) key)(hkey:keyOf P k key=some kl)(hf:∀p∈l,p.1≠key)
 (hs:guardOf ops o L=some true∧dstOk n o=true∧L.ev m = .hmap r∧L.ev y=av∧L.blk r=some (.gen (mapC P k l))∧av.ments = []∧okPair ops draw done o ⟨i,[r],[r]⟩ [] opl=true)
 (hnext:Go C (.reg ops draw (i+1) opl (nexts o draw ⟨i,[r],[r]⟩ done) todo (L.app o.dst ⟨.any,[(r,some (.gen (mapC P k (l++[(key,av)]))))]⟩))):Go C (.reg ops draw i (o::opl) done todo L):=by
 obtain ⟨h2,h3,h4,h5,h6,h7,h8⟩:=hs;have:=h.prog;subst this;exact reg_step h2 (sem1_putC (fun d hd=>by rw [h.n];exact dstOk_spec h3 d hd) h1 ht K h4 hx h5 h7 hkey hf) (by simpa using h6) (fun q hq=>by simp [news,Nm.eqb_iff] at hq) h8 hnext
theorem Rd.getC (h:Rd C P Gl T n rs v post){t k e:Nat}(ht:P.underlying t=some (.map k e))(K:Keyed P k)(r:Nm){m x:Operand}{ok:Bool}{zero:AV}(hz:∃z,(∀w,(zeroValue e).run P w = .ok z w)∧∀(w:World) (F:Nat→Prop) (hd:Nm→Hd),Rep w F hd zero z){key:Value}{kl:Lit}{l:Ents}(y:AV)
 (h1:o.op = .lookup t m x ok) (hx:keyIs (L.ev x) key) (hkey:keyOf P k key=some kl) (hf:foundG l key zero ok y) (hs:guardOf ops o L=some true∧dstOk n o=true∧L.ev m = .hmap r∧L.blk r=some (.gen (mapC P k l))∧okPair ops draw done o ⟨i,[r],[]⟩ y.ments opl=true)
 (hnext:Go C (.reg ops draw (i+1) opl (nexts o draw ⟨i,[r],[]⟩ done) todo (L.app o.dst ⟨y,[]⟩))):Go C (.reg ops draw i (o::opl) done todo L):=by
 obtain ⟨h2,h3,h4,h5,h6⟩:=hs;have:=h.prog;subst this;exact reg_step h2 (sem1_getC (fun d hd=>by rw [h.n];exact dstOk_spec h3 d hd) h1 ht K hz h4 hx hkey hf) (by simpa using h5) (by simp [news]) (by simpa [upsMents] using h6) hnext
theorem Rd.entryC (h:Rd C P Gl T n rs v post){t k e:Nat}(ht:P.underlying t=some (.map k e))(K:Keyed P k)(r:Nm){m x:Operand}{zero:AV}{z:Value}(hz:∀w,(zeroValue e).run P w = .ok z w)(hzr:∀(w:World) (F:Nat→Prop) (hd:Nm→Hd),Rep w F hd zero z)(hzm:zero.ments = []){key:Value}{kl:Lit}{l:Ents}
 (h1:o.op = .mapEntry t m x) (hx:keyIs (L.ev x) key) (hkey:keyOf P k key=some kl) (hf:∀p∈l,p.1≠key) (hs:guardOf ops o L=some true∧dstOk n o=true∧L.ev m = .hmap r∧L.blk r=some (.gen (mapC P k l))∧okPair ops draw done o ⟨i,[r],[r]⟩ [] opl=true)
 (hnext:Go C (.reg ops draw (i+1) opl (nexts o draw ⟨i,[r],[r]⟩ done) todo (L.app o.dst ⟨.tup [zero,.pv (.val (.int .i64 (l.length:Nat)))],[(r,some (.gen (mapD P k l (key,zero))))]⟩))):Go C (.reg ops draw i (o::opl) done todo L):=by
 obtain ⟨h2,h3,h4,h5,h6⟩:=hs;have:=h.prog;subst this;exact reg_step h2 (sem1_entryC (fun d hd=>by rw [h.n];exact dstOk_spec h3 d hd) h1 ht K hz hzr hzm h4 hx hkey hf) (by simpa using h5) (fun q hq=>by simp [news,Nm.eqb_iff] at hq) (by simpa [upsMents,AV.ments,AV.ments.mentsL,hzm,Blk.ments] using h6) hnext
theorem Rd.storeC (h:Rd C P Gl T n rs v post){t k:Nat}(r:Nm){m s x:Operand}{key:Value}{zero av:AV}{l:Ents}(h1:o.op = .entryStore t m s x)
 (hs:guardOf ops o L=some true∧dstOk n o=true∧L.ev m = .hmap r∧L.ev s = .pv (.val (.int .i64 (l.length:Nat)))∧L.ev x=av∧av.ments = []∧L.blk r=some (.gen (mapD P k l (key,zero)))∧okPair ops draw done o ⟨i,[r],[r]⟩ [] opl=true)
 (hnext:Go C (.reg ops draw (i+1) opl (nexts o draw ⟨i,[r],[r]⟩ done) todo (L.app o.dst ⟨.any,[(r,some (.gen (mapC P k (l++[(key,av)]))))]⟩))):Go C (.reg ops draw i (o::opl) done todo L):=by
 obtain ⟨h2,h3,h4,h5,h6,h7,h8,h9⟩:=hs;have:=h.prog;subst this;exact reg_step h2 (sem1_storeC (fun d hd=>by rw [h.n];exact dstOk_spec h3 d hd) h1 h4 h5 h6 h7) (by simpa using h8) (fun q hq=>by simp [news,Nm.eqb_iff] at hq) h9 hnext
end
end Go.Abs
namespace Go.Abs
open Go.RowKit
section
variable {C:Ctx} {P:Program} {Gl:Granted} {T:TT} {n:Nat} {rs:List ResultVar} {v:AV} {post:List (Nm × Option Blk)} {ops:Array Oper} {draw:Bool} {i:Nat} {o:Oper} {opl:List Oper} {done:List Trace} {todo:List Item} {L:LS}
theorem Rd.lay (h:Rd C P Gl T n rs v post){t e sz:Nat}{r:Nm}{es:List (List PV)}{y:AV}(h1:Operand.tmp t∈o.op.operands.toList)
 (hs:guardOf ops o L=some true∧dstOk n o=true∧L.ev (.tmp t) = .own r∧L.blk r=some (.row e sz es)∧stepOp T [] o (L.put (some t) (.pv (.ro sz es))) = .act [] ⟨y,[]⟩ True∧okPair ops draw done o ⟨i,[r],[r]⟩ y.ments opl=true)
 (hnext:Go C (.reg ops draw (i+1) opl (nexts o draw ⟨i,[r],[r]⟩ done) todo (L.app o.dst ⟨y,[(r,none)]⟩))):Go C (.reg ops draw i (o::opl) done todo L):=by
 obtain ⟨h2,h3,h4,h5,h6,h7⟩:=hs;have:=h.prog;subst this;have hdst:∀d,o.dst=some d→d<C.fn.ntmps:=fun d hd=>by rw [h.n];exact dstOk_spec h3 d hd
 have hok:=stepOp_ok (W:=[]) (L:=L.put (some t) (.pv (.ro sz es))) h.tok hdst;rw [h6] at hok;obtain ⟨hsem,_,_⟩:=hok trivial;have hev:(L.put (some t) (.pv (.ro sz es))).ev=evAt L.ev t (.pv (.ro sz es)):=by
  funext y;cases y with
  |tmp s=>
   simp only [LS.ev,evAt];rw [put_get];by_cases hst:s=t
   ·subst hst;simp
   ·have h':¬t=s:=fun e=>hst e.symm;simp [hst,h']
  |_=>rfl
 rw [hev] at hsem;exact reg_step h2 (sem1_lay (e:=e) h4 h1 hsem) (by simpa using h5) (fun q hq=>by simp [news,Nm.eqb_iff] at hq) (by simpa [upsMents] using h7) hnext
end
end Go.Abs
namespace Go.Abs
open Go.RowKit
section
variable {C:Ctx} {P:Program} {Gl:Granted} {T:TT} {n:Nat} {rs:List ResultVar} {v:AV} {post:List (Nm × Option Blk)} {ops:Array Oper} {draw:Bool} {i:Nat} {o:Oper} {opl:List Oper} {done:List Trace} {todo:List Item} {L:LS}
theorem Rd.deep (h:Rd C P Gl T n rs v post){fp:List (Nm × Blk)}{A:Actn}{p:Prop}
 (hs:guardOf ops o L=some true∧dstOk n o=true∧stepOp T [] o L = .act fp A p) (hp:p) (hok:okPairD ops draw done o ⟨i,fp.map (·.1),A.ups.map (·.1)⟩ (A.v.ments++upsMents A.ups) opl=true)
 (hnext:Go C (.reg ops draw (i+1) opl (nexts o draw ⟨i,fp.map (·.1),A.ups.map (·.1)⟩ done) todo (L.app o.dst A))):Go C (.reg ops draw i (o::opl) done todo L):=by
 obtain ⟨h2,h3,h6⟩:=hs;have:=h.prog;subst this;have hok':=stepOp_ok (W:=[]) (L:=L) h.tok fun d hd=>by rw [h.n];exact dstOk_spec h3 d hd
 rw [h6] at hok';obtain ⟨h1,h4,h5⟩:=hok' hp;exact reg_one rfl (.inl ⟨h2,fp,A,h1,h4,h5,rfl,rfl,rfl⟩) hok hnext
end
end Go.Abs
namespace Go.Proofs.D
open Go Go.Abs
def firstR:Nat→Code→Option Nat
 |0,_=>none
 |_+1,.region i _ _=>some i
 |n+1,.seq x _=>firstR n x
 |_,_=>none
def seqAt:Nat→Nat→Code→Code
 |0,_,c=>c
 |n+1,id,.seq x y=>if firstR 20 x=some id then .seq x y else seqAt n id y
 |_,_,c=>c
end Go.Proofs.D
namespace Go.Abs
open Go.RowKit
def RS (C:Ctx)(ops:Array Oper)(i:Nat)(L:LS)(R:LS→Prop):Prop:=
 (∃o L1 y vm,ops[i]?=some o∧Step1 C ops i o L L1 y vm∧R L1)∨∃o S,ops[i]?=some o∧StepN C ops o L S∧∀L1,S L1→R L1
def RA (C:Ctx)(ops:Array Oper)(K:LS→Prop):Nat→Array Bool→LS→Prop
 |0,listed,L=>Region.ready .any ops listed = []∧K L
 |n+1,listed,L=>(Region.ready .any ops listed = []→K L)∧∀i∈Region.ready .any ops listed,RS C ops i L (RA C ops K n (listed.setIfInBounds i true))
theorem ra_any {C:Ctx}{ops:Array Oper}{K:LS→Prop}{Q:Exit→Act→World→Prop}(hq:∀L' hd' F' a' w',K L'→Inv C L' hd' F' a' w'→Q .normal a' w'):∀(n:Nat) (listed:Array Bool) (L:LS) (hd:Nm→Hd) (F:Nat→Prop) (a:Act) (w:World),
 RA C ops K n listed L→Inv C L hd F a w→wpAny C.P .any ops Q n listed a w
 |0,listed,L,hd,F,a,w,h,hi=>⟨h.1,hq L hd F a w h.2 hi⟩
 |n+1,listed,L,hd,F,a,w,h,hi=>⟨fun hr=>hq L hd F a w (h.1 hr) hi,fun i hi'=>by
  rcases h.2 i hi' with ⟨o,L1,y,vm,ho,hs,hr⟩|⟨o,S,ho,hs,hr⟩
  ·have:=step1_wp ho hs hi (wpAny C.P .any ops Q n (listed.setIfInBounds i true)) Q fun hd' F' a' w' hi1=>ra_any hq n _ L1 hd' F' a' w' hr hi1;simp only [wpOp,ho];exact this
  ·obtain ⟨hg,hs⟩:=hs;simp only [wpOp,ho];rw [guard_true hi hg];exact .inl (hs hd F a w hi _ Q fun L' a' w' hd' F' hS hi'=>ra_any hq n _ L' hd' F' a' w' (hr L' hS) hi')⟩
theorem go_all {C:Ctx}{id:Nat}{ops:Array Oper}{k:List Item}{L:LS}(hm:C.P.follows .mixedOrders=true)(h:RA C ops (GoS C k) ops.size (Array.replicate ops.size false) L):Go C (.top (.code (.region id ops true)::k) L):=by
 intro hd' F a w hi cs;have hw:=ra_any (C:=C) (Q:=fun e a' w'=>e = .normal∧∃L' hd' F',GoS C k L'∧Inv C L' hd' F' a' w') (K:=GoS C k) (fun L' hd' F' a' w' h1 h2=>⟨rfl,L',hd',F',h1,h2⟩)
  ops.size (Array.replicate ops.size false) L hd' F a _ h (drew_inv hi)
 obtain ⟨e,a',w',⟨rfl,L',hd'',F',h1,h2⟩,harr⟩:=wp_region_any (id:=id) hm hw C.b k cs;obtain ⟨e,w'',fr,h3,h4,h5⟩:=h1 hd'' F' a' w' h2 cs;exact ⟨e,w'',fr,h3,.of_steps harr h4,h5⟩
theorem ra_ready {C:Ctx}{ops:Array Oper}{K:LS→Prop}{n:Nat}{listed:Array Bool}{L:LS}(l:List Nat)(hl:Region.ready .any ops listed=l)(hne:l≠[])(h:∀i∈l,RS C ops i L (RA C ops K n (listed.setIfInBounds i true))):RA C ops K (n+1) listed L:=
 ⟨fun e=>absurd (hl.symm.trans e) hne,by rw [hl];exact h⟩
theorem ra_end {C:Ctx}{ops:Array Oper}{K:LS→Prop}{listed:Array Bool}{L:LS}(hl:Region.ready .any ops listed = [])(h:K L):RA C ops K 0 listed L:=⟨hl,h⟩
theorem ra_step {C:Ctx}{ops:Array Oper}{K:LS→Prop}{n i:Nat}{listed:Array Bool}{L:LS}{o:Oper}(ho:ops[i]?=some o)(hg:guardOf ops o L=some true){fp:List (Nm × Blk)}{A:Actn}(h:Sem1 C o L.ev fp A)(hb:∀p∈fp,L.blk p.1=some p.2)(hnew:∀r∈news fp A.ups,L.blk r=none∧L.Fresh r∧r∈mayMake1 o)
 (hK:RA C ops K n (listed.setIfInBounds i true) (L.app o.dst A)):RS C ops i L (RA C ops K n (listed.setIfInBounds i true)):=
 .inl ⟨o,_,_,_,ho,.inl ⟨hg,fp,A,h,hb,hnew,rfl,rfl,rfl⟩,hK⟩
theorem ra_stepN {C:Ctx}{ops:Array Oper}{K:LS→Prop}{n i:Nat}{listed:Array Bool}{L:LS}{o:Oper}(S:LS→Prop)(ho:ops[i]?=some o)(hs:StepN C ops o L S)(hK:∀L1,S L1→RA C ops K n (listed.setIfInBounds i true) L1):RS C ops i L (RA C ops K n (listed.setIfInBounds i true)):=
 .inr ⟨o,S,ho,hs,hK⟩
theorem go_lenA {C:Ctx}{todo:List Item}{L:LS}(t j sz:Nat)(cs:List AV)(es:List (List PV))(ht:L.get t = .agg cs)(hj:cs[j]?=some (.pv (.ro sz es)))(h:es.length≤9223372036854775807→Go C (.top todo L)):Go C (.top todo L):=by
 intro hd F a w hi;refine h ?_ hd F a w hi;have:=hi.slots t;rw [ht] at this;generalize a.tmps.getD t undef=z at this;cases this with
 |agg _ vs hl hh _=>
  obtain ⟨v,hv⟩:∃v,vs[j]?=some v:=⟨_,List.getElem?_eq_getElem (by rw [hl];exact (List.getElem?_eq_some_iff.1 hj).1)⟩;have:=hh j _ v hj hv;cases this with
  |pv _ _ hp=>cases hp with
   |ro _ _ A cap u hA hc hm hl ha hr=>exact hm
section
variable {C:Ctx} {P:Program} {Gl:Granted} {T:TT} {n:Nat} {rs:List ResultVar} {v:AV} {post:List (Nm × Option Blk)} {ops:Array Oper} {i m:Nat} {o:Oper} {L:LS} {K:LS→Prop} {listed:Array Bool}
theorem Rd.raOp (h:Rd C P Gl T n rs v post){fp:List (Nm × Blk)}{A:Actn}(ho:ops[i]?=some o)(hs:guardOf ops o L=some true∧dstOk n o=true∧stepOp T [] o L = .act fp A True)(hA:news fp A.ups = []∧∀p∈fp,L.blk p.1=some p.2)
 (hK:RA C ops K m (listed.setIfInBounds i true) (L.app o.dst A)):RS C ops i L (RA C ops K m (listed.setIfInBounds i true)):=by
 obtain ⟨h2,h3,h6⟩:=hs;have hdst:∀d,o.dst=some d→d<C.fn.ntmps:=fun d hd=>by rw [h.n];exact dstOk_spec h3 d hd
 have hok:=stepOp_ok (W:=[]) (L:=L) h.tok hdst;rw [h6] at hok;obtain ⟨hsem,_,_⟩:=hok trivial;exact ra_step ho h2 hsem hA.2 (by rw [hA.1];simp) hK
theorem Rd.raMk (h:Rd C P Gl T n rs v post){d t:Nat}(k:Nat)(ho:ops[i]?=some o)(h1:o.op = .makeMap t none)(h2:o.dst=some d)(hs:Nat.blt d n=true∧guardOf ops o L=some true∧newOk L (.loc d)=true)
 (hK:RA C ops K m (listed.setIfInBounds i true) (L.app o.dst ⟨.hmap (.loc d),[(.loc d,some (.gen (mapC P k [])))]⟩)):RS C ops i L (RA C ops K m (listed.setIfInBounds i true)):=by
 obtain ⟨h3,h4,h5⟩:=hs;obtain ⟨n1,n2⟩:=newOk_spec h5;have:=h.prog;subst this;exact ra_step ho h4 (sem1_mkC h2 (by rw [h.n];exact Nat.blt_eq.mp h3) h1 k) (by simp) (fun r hr=>by
  simp [news] at hr;subst hr;exact ⟨n1,n2,by simp [mayMake1,h2,h1,makes]⟩) hK
theorem Rd.raPut (h:Rd C P Gl T n rs v post){t k e:Nat}(ht:P.underlying t=some (.map k e))(Kd:Maps.Keyed P k)(r:Nm){mo x y:Operand}{key:Value}{kl:Lit}{av:AV}{l:Ents}(ho:ops[i]?=some o)(h1:o.op = .mapUpdate t mo x y∨o.op = .insert t mo x y)(hx:keyIs (L.ev x) key)(hkey:keyOf P k key=some kl)(hf:∀p∈l,p.1≠key)
 (hs:guardOf ops o L=some true∧dstOk n o=true∧L.ev mo = .hmap r∧L.ev y=av∧L.blk r=some (.gen (mapC P k l))∧av.ments = [])
 (hK:RA C ops K m (listed.setIfInBounds i true) (L.app o.dst ⟨.any,[(r,some (.gen (mapC P k (l++[(key,av)]))))]⟩)):RS C ops i L (RA C ops K m (listed.setIfInBounds i true)):=by
 obtain ⟨h2,h3,h4,h5,h6,h7⟩:=hs;have:=h.prog;subst this;exact ra_step ho h2 (sem1_putC (fun d hd=>by rw [h.n];exact dstOk_spec h3 d hd) h1 ht Kd h4 hx h5 h7 hkey hf) (by simpa using h6) (fun q hq=>by simp [news,Nm.eqb_iff] at hq) hK
theorem Rd.raCallE (h:Rd C P Gl T n rs v post){g:FuncId}{ι:Type}{args:List AV}{pre' post':List (Option Blk)}{xs:ι→List Blk}{r:ι→AV}(ns os:List Nm)(hc:FunE P Gl g args pre' r post' xs)(z0:ι)(ho:ops[i]?=some o)(hs:∀z,callSideO n ops o L g args ns os pre' (r z) post' (xs z))
 (hK:∀z,RA C ops K m (listed.setIfInBounds i true) (L.app o.dst ⟨(r z).ren (backO ns os),upsR (backO ns os) (ns++os) (post'++(xs z).map some)⟩)):RS C ops i L (RA C ops K m (listed.setIfInBounds i true)):=
 ra_stepN _ ho (h.stepE ns os hc z0 hs) fun L1 ⟨z,e⟩=>by subst e;exact hK z
theorem Rd.raCall (h:Rd C P Gl T n rs v post){g:FuncId}{args:List AV}{pre' post':List (Option Blk)}{r:AV}(ns:List Nm)(hc:Fun P Gl g args pre' r post')(ho:ops[i]?=some o)(hs:callSideO n ops o L g args ns [] pre' r post' [])
 (hK:RA C ops K m (listed.setIfInBounds i true) (L.app o.dst ⟨r.ren (backO ns []),upsR (backO ns []) (ns++[]) (post'++[])⟩)):RS C ops i L (RA C ops K m (listed.setIfInBounds i true)):=
 h.raCallE (ι:=Unit) (r:=fun _=>r) (xs:=fun _=>[]) ns [] ⟨hc.fn,fun w0 F0 hd0 cargs h1 h2 h3 h4=>(hc.calls w0 F0 hd0 cargs h1 h2 h3 h4).mono fun e w he=>⟨(),by simpa [outs] using he⟩⟩ () ho (fun _=>hs) fun _=>by simpa using hK
end
end Go.Abs
namespace Go.Abs
open Go.RowKit
theorem go_fam {C:Ctx}{todo:List Item}{L:LS}(f:Nm)(ty:Nat)(hf:L.blk f=none)(ha:∀i,f≠.arg i)(h:Go C (.top todo (L.upd [(f,some (.fam ty []))]))):Go C (.top todo L):=by
 intro hd F a w hi cs;have hfd:=hi.blocks f;rw [hf] at hfd;have hfd:hd f = .dead:=hfd;have own:∀r k,((fun s=>if s=f then Hd.many [] else hd s) r).owns k→(hd r).owns k:=fun r k h=>by
  by_cases e:r=f
  ·simp [e,Hd.owns] at h
  ·simpa [e] using h
 have hrep:∀x v,Rep w F hd x v→Rep w F (fun s=>if s=f then Hd.many [] else hd s) x v:=by
  intro x v h;induction h with
  |pv p v h=>exact .pv p v h
  |agg l cs hl h h1 ih=>exact .agg l cs hl ih h1
  |tup l cs hl h ih=>exact .tup l cs hl ih
  |own r v h1 h=>exact .own r v h1 fun u hu=>by by_cases e:r=f<;>simp [e] at hu;exact h u hu
  |ptr r off v h1 h=>exact .ptr r off v h1 fun u hu=>by by_cases e:r=f<;>simp [e] at hu;exact h u hu
  |ept r sz i g v h1 h=>exact .ept r sz i g v h1 fun a b c hu=>by by_cases e:r=f<;>simp [e] at hu;exact h a b c hu
  |rop cs ad u hs h1 hc hr=>exact .rop cs ad u hs h1 hc hr
  |fn g a b va vb ha hb h h' ih ih'=>exact .fn g a b va vb ha hb ih ih'
  |hmap r v h1 h=>exact .hmap r v h1 fun u hu=>by by_cases e:r=f<;>simp [e] at hu;exact h u hu
  |rom Q k o h1 h2 h3=>exact .rom Q k o h1 h2 h3
  |opq Q v h1 h=>exact .opq Q v h1 h
  |any v=>exact .any v
 refine h (fun s=>if s=f then Hd.many [] else hd s) F a w { hi with slots:=fun t=>hrep _ _ (hi.slots t),blocks:=fun s=>?_,sep:=fun r s k hne h1 h2=>hi.sep r s k hne (own r k h1) (own s k h2),mine:=fun r k h1=>hi.mine r k (own r k h1),kept:=fun i=>?_,ntmps:=hi.ntmps,defers:=hi.defers } cs
 ·rw [upd_get];by_cases e:f=s
  ·subst e;simp [upsGet,HoldB]
  ·have e':¬s=f:=fun h=>e h.symm;simp only [upsGet,e,if_false,Option.getD_none];have hb:=hi.blocks s;cases hl:L.blk s with
   |none=>rw [hl] at hb;simpa [HoldB,e'] using hb
   |some b=>
    rw [hl] at hb;cases b with
    |box ty cs=>
     obtain ⟨k,arr,h1,h2,h3,h4,h5⟩:=hb;exact ⟨k,arr,by simpa [e'] using h1,h2,h3,fun j c v a1 a2=>hrep _ _ (h4 j c v a1 a2),h5⟩
    |row e0 sz es=>
     obtain ⟨v,cells,h1,h2⟩:=hb;exact ⟨v,cells,by simpa [e'] using h1,h2⟩
    |raw Q=>
     obtain ⟨k,o,h1,h2⟩:=hb;exact ⟨k,o,by simpa [e'] using h1,h2⟩
    |iter Q=>
     obtain ⟨k,o,b,ob,h1,h2⟩:=hb;exact ⟨k,o,b,ob,by simpa [e'] using h1,h2⟩
    |gen Q=>
     obtain ⟨k,o,h1,h2⟩:=hb;exact ⟨k,o,by simpa [e'] using h1,h2⟩
    |fam ty l=>exact ⟨by simpa [e'] using hb.1,hb.2⟩
    |genP Q t=>
     obtain ⟨k,o,z,h1,h2,h3,h4⟩:=hb;refine ⟨k,o,z,by simpa [e'] using h1,h2,h3,fun j hj=>?_⟩;by_cases e2:t=f
     ·simp [e2] at hj
     ·exact h4 j (by simpa [e2] using hj)
 ·have e:¬Nm.arg i=f:=fun h=>ha i h.symm;simpa [e] using hi.kept i
theorem inv_in {C:Ctx}{L:LS}{hd:Nm→Hd}{F:Nat→Prop}{a:Act}{w:World}(hi:Inv C L hd F a w){f r:Nm}{ty:Nat}{l:List (Nat × (List PV→Prop))}{cs:List PV}(p:List PV→Prop)(hf:L.blk f=some (.fam ty l))(hr:L.blk r=some (.box ty (cs.map .pv)))(hp:p cs)
 (hne:f≠r) (ha:∀i,f≠.arg i):∃k hd',hd r = .box k∧k∉l.map (·.1)∧(∀s,s≠f→s≠r→hd' s=hd s)∧hd' r = .dead∧Inv C (L.upd [(f,some (.fam ty (l++[(k,p)]))),(r,none)]) hd' F a w:=by
 have hbr:=hi.blocks r;rw [hr] at hbr;obtain ⟨k,arr,r1,r2,r3,r4,r5⟩:=hbr;have hbf:=hi.blocks f;rw [hf] at hbf;obtain ⟨f1,f2⟩:=hbf;have hk:k∉l.map (·.1):=fun hm=>hi.sep f r k hne (by rw [f1];exact hm) (by rw [r1];exact rfl)
 let hd':Nm→Hd:=fun s=>if s=f then .many (l.map (·.1)++[k]) else if s=r then .dead else hd s
 have own:∀s j,(hd' s).owns j→(s=f∧((hd f).owns j∨(hd r).owns j))∨(s≠f∧s≠r∧(hd s).owns j):=fun s j h=>by
  by_cases e:s=f
  ·refine .inl ⟨e,?_⟩;simp only [hd',e,if_true,Hd.owns,List.mem_append,List.mem_singleton] at h;rcases h with h|rfl
   ·exact .inl (by rw [f1];exact h)
   ·exact .inr (by rw [r1];exact rfl)
  ·by_cases e2:s=r
   ·simp [hd',e2,Hd.owns,hne.symm] at h
   ·exact .inr ⟨e,e2,by simpa [hd',e,e2] using h⟩
 have nb:∀s j,hd' s = .box j→hd s = .box j:=fun s j h=>by
  by_cases e:s=f
  ·simp [hd',e] at h
  ·by_cases e2:s=r
   ·simp [hd',e2,hne.symm] at h
   ·simpa [hd',e,e2] using h
 have hrep:∀x v,Rep w F hd x v→Rep w F hd' x v:=by
  intro x v h;have nr:∀s u,hd' s = .row u→hd s = .row u:=fun s j h=>by
   by_cases e:s=f
   ·simp [hd',e] at h
   ·by_cases e2:s=r
    ·simp [hd',e2,hne.symm] at h
    ·simpa [hd',e,e2] using h
  induction h with
  |pv p v h=>exact .pv p v h
  |agg l cs hl h h1 ih=>exact .agg l cs hl ih h1
  |tup l cs hl h ih=>exact .tup l cs hl ih
  |own r v h1 h=>exact .own r v h1 fun u hu=>h u (nr _ _ hu)
  |ptr r off v h1 h=>exact .ptr r off v h1 fun u hu=>h u (nb _ _ hu)
  |ept r sz i g v h1 h=>exact .ept r sz i g v h1 fun a b c hu=>h a b c (nr _ _ hu)
  |rop cs ad u hs h1 hc hr=>exact .rop cs ad u hs h1 hc hr
  |fn g a b va vb ha hb h h' ih ih'=>exact .fn g a b va vb ha hb ih ih'
  |hmap r v h1 h=>exact .hmap r v h1 fun u hu=>h u (nb _ _ hu)
  |rom Q k o h1 h2 h3=>exact .rom Q k o h1 h2 h3
  |opq Q v h1 h=>exact .opq Q v h1 h
  |any v=>exact .any v
 refine ⟨k,hd',r1,hk,fun s e1 e2=>by simp [hd',e1,e2],by simp [hd',hne.symm],{ hi with slots:=fun s=>?_,blocks:=fun s=>?_,sep:=fun r s k hne h1 h2=>?_,mine:=fun s j h1=>?_,kept:=fun i=>?_,ntmps:=hi.ntmps,defers:=hi.defers }⟩
 ·have e:(L.upd [(f,some (.fam ty (l++[(k,p)]))),(r,none)]).get s=L.get s:=by unfold LS.get;rw [upd_blk]
  rw [e];exact hrep _ _ (hi.slots s)
 ·rw [upd_get];by_cases e:s=f
  ·subst e;have:¬r=s:=fun h=>hne h.symm;simp only [upsGet,this,if_false,if_true,Option.getD_some];refine ⟨by simp [hd'],fun k' p' hm=>?_⟩;rcases List.mem_append.1 hm with hm|hm
   ·exact f2 k' p' hm
   ·simp only [List.mem_singleton,Prod.mk.injEq] at hm;obtain ⟨rfl,rfl⟩:=hm;refine ⟨cs,arr,hp,r2,by simpa using r3,fun j c v h1 h2=>?_,r5⟩;have:=r4 j (.pv c) v (by simp [h1]) h2;cases this with|pv _ _ h=>exact h
  ·by_cases e2:s=r
   ·subst e2;simp [upsGet,HoldB,hd',e]
   ·have e3:¬f=s:=fun h=>e h.symm;have e4:¬r=s:=fun h=>e2 h.symm;simp only [upsGet,e3,e4,if_false,Option.getD_none];have hb:=hi.blocks s;have hh:hd' s=hd s:=(by simp [hd',e,e2]);cases hl:L.blk s with
    |none=>rw [hl] at hb;exact hh.trans hb
    |some b=>
     rw [hl] at hb;cases b with
     |box ty cs=>
      obtain ⟨k,arr,h1,h2,h3,h4,h5⟩:=hb;exact ⟨k,arr,hh.trans h1,h2,h3,fun j c v a1 a2=>hrep _ _ (h4 j c v a1 a2),h5⟩
     |row e0 sz es=>
      obtain ⟨v,cells,h1,h2⟩:=hb;exact ⟨v,cells,hh.trans h1,h2⟩
     |raw Q=>
      obtain ⟨k,o,h1,h2⟩:=hb;exact ⟨k,o,hh.trans h1,h2⟩
     |iter Q=>
      obtain ⟨k,o,b,ob,h1,h2⟩:=hb;exact ⟨k,o,b,ob,hh.trans h1,h2⟩
     |gen Q=>
      obtain ⟨k,o,h1,h2⟩:=hb;exact ⟨k,o,hh.trans h1,h2⟩
     |fam ty l=>exact ⟨hh.trans hb.1,hb.2⟩
     |genP Q t=>
      obtain ⟨k,o,z,h1,h2,h3,h4⟩:=hb;exact ⟨k,o,z,hh.trans h1,h2,h3,fun j hj=>h4 j (nb _ _ hj)⟩
 ·rcases own _ _ h1 with ⟨e1,a1⟩|⟨e1,e2,a1⟩<;>rcases own _ _ h2 with ⟨e3,a2⟩|⟨e3,e4,a2⟩
  ·exact hne (e1.trans e3.symm)
  ·rcases a1 with a1|a1
   ·exact hi.sep f s k (fun h=>e3 h.symm) a1 a2
   ·exact hi.sep _ s k (fun h=>e4 h.symm) a1 a2
  ·rcases a2 with a2|a2
   ·exact hi.sep _ f k e1 a1 a2
   ·exact hi.sep _ _ k e2 a1 a2
  ·exact hi.sep _ _ k hne a1 a2
 ·rcases own _ _ h1 with ⟨_,a1|a1⟩|⟨_,_,a1⟩<;>exact hi.mine _ _ a1
 ·have e:¬Nm.arg i=f:=fun h=>ha i h.symm;by_cases e2:Nm.arg i=r
  ·exact .inr (by simp [hd',e2,hne.symm])
  ·simpa [hd',e,e2] using hi.kept i
theorem go_in {C:Ctx}{todo:List Item}{L:LS}(t:Nat)(f r:Nm){ty:Nat}{l:List (Nat × (List PV→Prop))}{cs:List PV}(p:List PV→Prop)(hf:L.blk f=some (.fam ty l))(hr:L.blk r=some (.box ty (cs.map .pv)))(ht:L.get t = .ptr r 0)(hp:p cs)
 (hne:f≠r) (ha:∀i,f≠.arg i) (h:∀k,k∉l.map (·.1)→Go C (.top todo ((L.upd [(f,some (.fam ty (l++[(k,p)]))),(r,none)]).put (some t) (.pv (.val (.pointer (some ⟨k,0,none⟩))))))):Go C (.top todo L):=by
 intro hd F a w hi c0;obtain ⟨k,hd',r1,hk,_,_,hinv⟩:=inv_in hi p hf hr hp hne ha;refine h k hk hd' F a w { hinv with slots:=fun s=>?_,blocks:=fun s=>?_,ntmps:=hinv.ntmps,defers:=hinv.defers } c0
 ·rw [put_get];by_cases hst:t=s
  ·subst hst;rw [if_pos rfl];have:=hi.slots t;rw [ht] at this;generalize a.tmps.getD t undef=v at this ⊢;cases this with
   |ptr _ _ _ h1 hh=>rw [hh k r1];exact .pv _ _ (.val _ rfl)
  ·rw [if_neg (fun e=>hst (Option.some.inj e))];exact hinv.slots s
 ·rw [put_blk];exact hinv.blocks s
theorem go_inP {C:Ctx}{todo:List Item}{L:LS}(f m r:Nm){ty:Nat}{l:List (Nat × (List PV→Prop))}{cs:List PV}{Q:Nat→World→(Nat→Prop)→Obj→Prop}(p:List PV→Prop)(hf:L.blk f=some (.fam ty l))(hm:L.blk m=some (.genP Q r))(hr:L.blk r=some (.box ty (cs.map .pv)))(hp:p cs)
 (hne:f≠r) (hmf:m≠f) (hmr:m≠r) (ha:∀i,f≠.arg i) (h:∀k,k∉l.map (·.1)→Go C (.top todo ((L.upd [(f,some (.fam ty (l++[(k,p)]))),(r,none)]).upd [(m,some (.gen (Q k)))]))):Go C (.top todo L):=by
 intro hd F a w hi c0;obtain ⟨k,hd',r1,hk,hh,_,hinv⟩:=inv_in hi p hf hr hp hne ha;refine h k hk hd' F a w { hinv with slots:=fun s=>?_,blocks:=fun s=>?_,ntmps:=hinv.ntmps,defers:=hinv.defers } c0
 ·have e:((L.upd [(f,some (.fam ty (l++[(k,p)]))),(r,none)]).upd [(m,some (.gen (Q k)))]).get s=(L.upd [(f,some (.fam ty (l++[(k,p)]))),(r,none)]).get s:=by unfold LS.get;rw [upd_blk]
  rw [e];exact hinv.slots s
 ·rw [upd_get];by_cases e:m=s
  ·subst e;simp only [upsGet,if_true,Option.getD_some];have hb:=hi.blocks m;rw [hm] at hb;obtain ⟨j,o,z,h1,h2,h3,h4⟩:=hb;obtain rfl:=h4 k r1;exact ⟨j,o,(hh m hmf hmr).trans h1,h2,h3⟩
  ·simp only [upsGet,e,if_false,Option.getD_none];exact hinv.blocks s
theorem fun_fam {P:Program}{Gl:Granted}{g:FuncId}{ty:Nat}{v:AV}{args:List AV}{l:List (Nat × (List PV→Prop))}{k:Nat}{p:List PV→Prop}(hv:v.ments = [])(hargs:∀x∈args,x.ments = [])(hk:(k,p)∈l)(hnd:(l.map (·.1)).Nodup)(hne:∃cs,p cs)
 (h:∀cs,p cs→∃cs',p cs'∧Fun P Gl g (.ptr (.arg 0) 0::args) [some (.box ty (cs.map .pv))] v [some (.box ty (cs'.map .pv))]) :
 Fun P Gl g (.pv (.val (.pointer (some ⟨k,0,none⟩)))::args) [some (.fam ty l)] v [some (.fam ty l)]:=by
 refine ⟨?_,fun w0 F0 hd0 cargs hG hL hlen hrep=>?_⟩
 ·obtain ⟨cs,hcs⟩:=hne;obtain ⟨_,_,hf⟩:=h cs hcs;exact hf.fn
 ·have hb:=hL.holds (.arg 0);simp only [keyed,lkH,Nm.eqb,Nat.beq_eq,if_true] at hb;obtain ⟨b1,b2⟩:=hb;obtain ⟨cs,arr,q1,q2,q3,q4,q5⟩:=b2 k p hk;obtain ⟨cs',hp',hfun⟩:=h cs q1;have hkm:k∈l.map (·.1):=List.mem_map.2 ⟨_,hk,rfl⟩;have hk0:(hd0 (.arg 0)).owns k:=by rw [b1];exact hkm
  let hd1:Nm→Hd:=fun r=>if r = .arg 0 then .box k else .dead
  have own1:∀r j,(hd1 r).owns j→r = .arg 0∧k=j:=fun r j h=>by
   by_cases e:r = .arg 0
   ·exact ⟨e,by simpa [hd1,e,Hd.owns] using h⟩
   ·simp [hd1,e,Hd.owns] at h
  have hL1:Lies w0 F0 hd1 (keyed 0 [some (.box ty (cs.map .pv))]):=by
   refine ⟨hL.fin,fun r s j hne h1 h2=>hne ((own1 r j h1).1.trans (own1 s j h2).1.symm),fun r j h1=>?_,fun r=>?_⟩
   ·obtain ⟨_,rfl⟩:=own1 r j h1;exact hL.mine _ _ hk0
   ·by_cases e:r = .arg 0
    ·subst e;refine ⟨k,arr,by simp [hd1],q2,by simpa using q3,fun j c v h1 h2=>?_,q5⟩;simp only [List.getElem?_map] at h1;cases hc:cs[j]? with
     |none=>rw [hc] at h1;cases h1
     |some c'=>rw [hc] at h1;cases h1;exact .pv _ _ (q4 j c' v hc h2)
    ·have:lkH (keyed 0 [some (.box ty (cs.map .pv))]) r=none:=by
      simp only [keyed,lkH];rw [if_neg];rw [Nm.eqb_iff];exact fun h=>e h.symm
     rw [this];simp [HoldB,hd1,e]
  refine (hfun.calls w0 F0 hd1 cargs hG hL1 (by simpa using hlen) fun j x c hj hc=>?_).mono fun e w hw=>?_
  ·cases j with
   |zero=>
    simp only [List.getElem?_cons_zero,Option.some.injEq] at hj;subst hj;have:=hrep 0 _ c rfl hc;cases this with
    |pv _ _ hq=>cases hq with
     |val _ h1=>exact .ptr _ _ _ rfl fun j hj=>by simp [hd1] at hj;rw [hj]
   |succ j=>
    simp only [List.getElem?_cons_succ] at hj;exact (hrep (j+1) x c (by simpa using hj) hc).bare (hargs x (List.mem_of_getElem? hj))
  ·obtain ⟨cv,F,hd,rfl,hr,hl2,hleft⟩:=hw;have hb2:=hl2.holds (.arg 0);simp only [keyed,lkH,Nm.eqb,Nat.beq_eq,if_true] at hb2;obtain ⟨k2,arr2,s1,s2,s3,s4,s5⟩:=hb2;have hkk:k2=k:=by
    rcases hleft.kept 0 with h|h
    ·rw [s1] at h;simpa [hd1] using h
    ·rw [s1] at h;cases h
   subst hkk
   let hd2:Nm→Hd:=fun r=>if r = .arg 0 then hd0 (.arg 0) else .dead
   have own2:∀r j,(hd2 r).owns j→r = .arg 0∧(hd0 (.arg 0)).owns j:=fun r j h=>by
    by_cases e:r = .arg 0
    ·exact ⟨e,by simpa [hd2,e] using h⟩
    ·simp [hd2,e,Hd.owns] at h
   have hnF:∀j,(hd0 (.arg 0)).owns j→¬F j:=fun j hj hF=>by
    obtain ⟨m1,m2⟩:=hL.mine _ _ hj;rcases hleft.fin j hF with h|h|⟨s,h⟩
    ·exact m1 h
    ·omega
    ·obtain ⟨rfl,rfl⟩:=own1 _ _ h;exact (hl2.mine _ _ (by rw [s1];exact rfl)).1 hF
   have hold:∀j,j<w0.heap.size→j≠k2→w.heap[j]?=w0.heap[j]?:=fun j hj hne=>hleft.old j hj fun ⟨s,hs⟩=>hne (own1 _ _ hs).2.symm;refine ⟨cv,F,hd2,rfl,hr.bare hv,⟨hl2.fin,fun r s j hne h1 h2=>hne ((own2 r j h1).1.trans (own2 s j h2).1.symm),fun r j h1=>?_,fun r=>?_⟩,⟨fun r j h1=>.inr ⟨_,(own2 r j h1).2⟩,fun j hj=>?_,hleft.more,fun i=>?_,hleft.os,hleft.tape,hleft.output,hleft.size,fun j hj hn=>?_⟩⟩
   ·obtain ⟨_,h2⟩:=own2 r j h1;exact ⟨hnF j h2,Nat.lt_of_lt_of_le (hL.mine _ _ h2).2 hleft.size⟩
   ·by_cases e:r = .arg 0
    ·subst e;refine ⟨by simp [hd2,b1],fun j p' hm=>?_⟩;by_cases hjk:j=k2
     ·subst hjk;have hpp:p'=p:=by
       obtain ⟨i1,e1⟩:=List.getElem?_of_mem hm;obtain ⟨i2,e2⟩:=List.getElem?_of_mem hk;have:i1=i2:=nodup_idx hnd (x:=j) (by simp [e1]) (by simp [e2]);subst this;rw [e1] at e2;exact (Prod.mk.inj (Option.some.inj e2)).2
      subst hpp;refine ⟨cs',arr2,hp',s2,by simpa using s3,fun i c v h1 h2=>?_,s5⟩;have:=s4 i (.pv c) v (by simp [h1]) h2;cases this with|pv _ _ h=>exact h
     ·obtain ⟨cs2,arr3,t1,t2,t3,t4,t5⟩:=b2 j p' hm;have hj0:(hd0 (.arg 0)).owns j:=(by rw [b1];exact List.mem_map.2 ⟨_,hm,rfl⟩);refine ⟨cs2,arr3,t1,(hold j (hL.mine _ _ hj0).2 hjk).trans t2,t3,fun i c v h1 h2=>(t4 i c v h1 h2).mono (fun m hm=>?_) hleft.more,t5⟩;exact hold m (hL.fin m hm) fun h=>(hL.mine _ _ hk0).1 (h ▸ hm)
    ·have:lkH (keyed 0 [some (.fam ty l)]) r=none:=by
      simp only [keyed,lkH];rw [if_neg];rw [Nm.eqb_iff];exact fun h=>e h.symm
     rw [this];simp [HoldB,hd2,e]
   ·rcases hleft.fin j hj with h|h|⟨s,h⟩
    ·exact .inl h
    ·exact .inr (.inl h)
    ·obtain ⟨rfl,rfl⟩:=own1 _ _ h;exact .inr (.inr ⟨_,hk0⟩)
   ·by_cases e:i=0
    ·subst e;exact .inl (by simp [hd2])
    ·exact .inr (by simp [hd2,e])
   ·exact hleft.old j hj fun ⟨s,hs⟩=>by
     obtain ⟨rfl,rfl⟩:=own1 _ _ hs;exact hn ⟨_,hk0⟩
def callSideX (n:Nat)(ops:Array Oper)(draw:Bool)(i:Nat)(o:Oper)(opl:List Oper)(done:List Trace)(L:LS)(g:FuncId)(args:List AV)(ns:List Nm)(pre:List (Option Blk))(v:AV)(post:List (Option Blk)):Prop:=match o.op with
 |.call c=>match c.callee with
  |.value x=>match L.ev x with
   |.fn (.func g') first caps=>g'=g∧guardOf ops o L=some true∧dstOk n o=true∧AV.ren.renL (inName ns) (first++evL L c.args.toList++caps)=args∧renBs (inName ns) (blksOf L ns)=pre∧allSome (blksOf L ns)=true∧nodupB ns=true∧post.length=ns.length∧
    onlyArgs ns.length v.ments=true∧onlyArgs ns.length (blksMents post)=true∧okPairD ops draw done o ⟨i,ns,ns⟩ ((v.ren (backName ns)).ments++upsMents (callUps ns ns post)) opl=true
   |_=>False
  |_=>False
 |_=>False
theorem Rd.callX {C:Ctx}{P:Program}{Gl:Granted}{T:TT}{n:Nat}{rs:List ResultVar}{v:AV}{post:List (Nm × Option Blk)}(h:Rd C P Gl T n rs v post){g:FuncId}{args:List AV}{pre' post':List (Option Blk)}{r:AV}(ns:List Nm)(hc:Fun P Gl g args pre' r post'){ops:Array Oper}{draw:Bool}{i:Nat}{o:Oper}{opl:List Oper}{done:List Trace}{todo:List Item}{L:LS}
 (hs:callSideX n ops draw i o opl done L g args ns pre' r post') (hnext:Go C (.reg ops draw (i+1) opl (nexts o draw ⟨i,ns,ns⟩ done) todo (L.app o.dst ⟨r.ren (backName ns),callUps ns ns post'⟩))):Go C (.reg ops draw i (o::opl) done todo L):=by
 unfold callSideX at hs;split at hs
 ·rename_i c ho;split at hs
  ·rename_i x hcal;split at hs
   ·rename_i g' first caps hx
    obtain ⟨rfl,hg,hd,hargs,hpre,hall,hnd,hlen,hv,hpost,hok⟩:=hs;obtain ⟨fng,h1,h2,h3⟩:=hc.fn;have hp0:=h.prog;have hg0:=h.gl;subst hp0;subst hg0;have hall:=allSome_spec hall;have e1:=fp_names hall;have e2:=callUps_keys ns ns post' hlen;refine reg_one rfl (.inl ⟨hg,_,_,sem1_call (C:=C) (L:=L) (fun d hd'=>by rw [h.n];exact dstOk_spec hd d hd') ho hcal hx h1 h2 h3 hargs hpre hall (nodupB_spec hnd) hlen hv hpost hc.calls,?_,?_,rfl,rfl,rfl⟩) ?_ ?_
    ·intro q hq;obtain ⟨s,hs,hq⟩:=List.mem_filterMap.1 hq;obtain ⟨b,hb⟩:=hall s hs;rw [hb] at hq;cases hq;exact hb
    ·intro s hs;exfalso;obtain ⟨h1,h2⟩:=List.mem_filter.1 hs;rw [e2] at h1;obtain ⟨b,hb⟩:=hall s h1;simp only [Bool.not_eq_true',List.any_eq_false] at h2;have:=h2 (s,b) (List.mem_filterMap.2 ⟨s,h1,by simp [hb]⟩);exact this ((Nm.eqb_iff _ _).2 rfl)
    ·rw [e1,e2];exact hok
    ·rw [e1,e2];exact hnext
   ·exact hs.elim
  ·exact hs.elim
 ·exact hs.elim
open Go.Maps (Keyed)
open Go.MapKept
abbrev atP (k off:Nat):AV:=.pv (.val (.pointer (some ⟨k,off,none⟩)))
theorem sem1_putP {C:Ctx}{o:Oper}{ev:Operand→AV}{r s:Nm}{t k e ty:Nat}{m x v:Operand}(hdst:∀d,o.dst=some d→d<C.fn.ntmps)(ho:o.op = .mapUpdate t m x v∨o.op = .insert t m x v)(ht:C.P.underlying t=some (.map k e))(K:Keyed C.P k){key:Value}{kl:Lit}{l:Ents}{cs:List AV}
 (hm:ev m = .hmap r) (hx:keyIs (ev x) key) (hv:ev v = .ptr s 0) (hkey:keyOf C.P k key=some kl) (hf:∀p∈l,p.1≠key) :
 Sem1 C o ev [(r,.gen (mapG C.P k l)),(s,.box ty cs)] ⟨.any,[(r,some (.genP (fun z=>mapG C.P k (l++[(key,atP z 0)])) s))]⟩:=by
 refine sem1_of hdst fun L hd F a w hev hfp hnew hi=>?_;have e1:=hev m (by rcases ho with ho|ho<;>simp [ho,Op.operands]);have e2:=hev x (by rcases ho with ho|ho<;>simp [ho,Op.operands]);have e3:=hev v (by rcases ho with ho|ho<;>simp [ho,Op.operands]);rw [hm] at e1;rw [hv] at e3;have e2:=hx _ _ _ _ e2;have hb:=hi.blocks r;rw [hfp (r,.gen (mapG C.P k l)) (by simp)] at hb;obtain ⟨j,ob,q1,q2,q3⟩:=hb;have hs:=hi.blocks s;rw [hfp (s,.box ty cs) (by simp)] at hs;obtain ⟨z,arr,s1,_⟩:=hs;have e1:a.eval m = .map (some j):=by cases e1 with|hmap _ _ _ h=>exact h j q1
 have e3:a.eval v = .pointer (some ⟨z,0,none⟩):=by cases e3 with|ptr _ _ _ _ h=>exact h z s1
 obtain ⟨es,clock,rfl,hst,hg,hsz,hr⟩:=q3 w F (fun _ _=>rfl) (fun _ h=>h);have hjF:¬F j:=(hi.mine r j (by rw [q1];exact rfl)).1;have hlen:∀(i:Nat) (x:MapEntry),es[i]?=some x→∃p,l[i]?=some p:=fun i x hx=>by
  have:=(Array.getElem?_eq_some_iff.1 hx).1;exact ⟨l[i]'(by omega),by simp⟩
 have hks:∀x∈es.toList,∃l,keyOf C.P k x.key=some l:=fun x hx=>by
  obtain ⟨i,hi'⟩:=List.getElem?_of_mem hx;obtain ⟨p,hp'⟩:=hlen i x (by simpa using hi');rw [(hr i x p (by simpa using hi') hp').1];exact (hg p (List.mem_of_getElem? hp')).1
 rcases run_putG (P:=C.P) (val:=a.eval v) K ht hkey q2 hks with ⟨hno,hrun⟩|⟨i,x,hix,hxk,hrun⟩
 ·have hG:mapG C.P k (l++[(key,atP z 0)]) w F (.map (es.push { key,val:=a.eval v,born:=clock }) (clock+1)):=by
   refine ⟨_,_,rfl,stamped_push hst hno,fun p hp=>?_,by simp [hsz],fun i x p hx hp=>?_⟩
   ·rcases List.mem_append.1 hp with hp|hp
    ·exact hg p hp
    ·simp at hp;subst hp;exact ⟨⟨_,hkey⟩,rfl⟩
   ·rw [Array.getElem?_push] at hx;by_cases hi':i=es.size
    ·rw [if_pos hi'] at hx;rw [List.getElem?_append_right (by omega),show i-l.length=0 by omega] at hp;simp at hx hp;subst hx hp;exact ⟨rfl,by rw [e3];exact .pv _ _ (.val _ rfl)⟩
    ·rw [if_neg hi'] at hx;have:=(Array.getElem?_eq_some_iff.1 hx).1;rw [List.getElem?_append_left (by omega)] at hp;exact hr i x p hx hp
  obtain ⟨g1,g2,g3⟩:=grown_set (o':=.map (es.push { key,val:=a.eval v,born:=clock }) (clock+1)) q2;refine ⟨_,_,hd,F,.inr ⟨?_,rfl⟩,inv_turn hi q1 (.genP (fun z=>mapG C.P k (l++[(key,atP z 0)])) s) g1 g2 ⟨j,_,z,q1,g3,fun w2 F2 a1 a2=>mapG_mono hG (fun i hi'=>?_) a2,fun j' hj'=>by rw [s1] at hj';cases hj';rfl⟩,.any _⟩
  ·rcases ho with ho|ho<;>simp [execOp,ho,e1,e2,hrun,Result.andThen]
  ·rw [a1 i hi'];exact (heap_set q2).2 i fun e=>hjF (e ▸ hi')
 ·exfalso;obtain ⟨p,hp'⟩:=hlen i x hix;exact hf p (List.mem_of_getElem? hp') ((hr i x p hix hp').1.symm.trans hxk)
section
variable {C:Ctx} {P:Program} {Gl:Granted} {T:TT} {n:Nat} {rs:List ResultVar} {v:AV} {post:List (Nm × Option Blk)} {ops:Array Oper} {draw:Bool} {i:Nat} {o:Oper} {opl:List Oper} {done:List Trace} {todo:List Item} {L:LS}
theorem rep_atP {w:World}{F:Nat→Prop}{hd:Nm→Hd}{k off:Nat}{u:Value}(h:Rep w F hd (atP k off) u):u = .pointer (some ⟨k,off,none⟩):=by
 cases h with|pv _ _ hp=>cases hp with|val _ _=>rfl
theorem Rd.mapPutP (h:Rd C P Gl T n rs v post){t k e ty:Nat}(ht:P.underlying t=some (.map k e))(K:Keyed P k)(r s:Nm){m x y:Operand}{key:Value}{kl:Lit}{l:Ents}{cs:List AV}(h1:o.op = .mapUpdate t m x y∨o.op = .insert t m x y)(hx:keyIs (L.ev x) key)(hkey:keyOf P k key=some kl)(hf:∀p∈l,p.1≠key)(hrs:r≠s)
 (hs:guardOf ops o L=some true∧dstOk n o=true∧L.ev m = .hmap r∧L.ev y = .ptr s 0∧L.blk r=some (.gen (mapG P k l))∧L.blk s=some (.box ty cs)∧okPair ops draw done o ⟨i,[r,s],[r]⟩ [s] opl=true)
 (hnext:Go C (.reg ops draw (i+1) opl (nexts o draw ⟨i,[r,s],[r]⟩ done) todo (L.app o.dst ⟨.any,[(r,some (.genP (fun z=>mapG P k (l++[(key,atP z 0)])) s))]⟩))):Go C (.reg ops draw i (o::opl) done todo L):=by
 obtain ⟨h2,h3,h4,h5,h6,h7,h8⟩:=hs;have:=h.prog;subst this;exact reg_step h2 (sem1_putP (fun d hd=>by rw [h.n];exact dstOk_spec h3 d hd) h1 ht K (ty:=ty) (cs:=cs) h4 hx h5 hkey hf) (by simp [h6,h7]) (fun q hq=>by
  simp [news] at hq;obtain ⟨rfl,h0,_⟩:=hq;exact absurd ((Nm.eqb_iff q q).2 rfl) (by simp [h0])) (by simpa [upsMents,Blk.ments,AV.ments] using h8) hnext
theorem Rd.famNil (h:Rd C P Gl T n rs v post){x:Operand}(k q:Nat)(h1:o.op = .nilCheck x)
 (hs:guardOf ops o L=some true∧dstOk n o=true∧L.ev x=atP k q∧okPair ops draw done o ⟨i,[],[]⟩ [] opl=true)
 (hnext:Go C (.reg ops draw (i+1) opl (nexts o draw ⟨i,[],[]⟩ done) todo (L.app o.dst ⟨atP k q,[]⟩))):Go C (.reg ops draw i (o::opl) done todo L):=by
 obtain ⟨h2,h3,h4,h5⟩:=hs;refine reg_step (fp:=[]) (A:=⟨atP k q,[]⟩) h2 (sem1_read (fun d hd=>by rw [h.n];exact dstOk_spec h3 d hd) fun L' hd F a w hev hfp hi=>?_) (by simp) (by simp [news]) (by simpa [upsMents,AV.ments] using h5) hnext;have e:=hev x (by simp [h1,Op.operands]);rw [h4] at e;have hp:=rep_atP e;exact ⟨.pointer (some ⟨k,q,none⟩),by simp [execOp,h1,hp],.pv _ _ (.val _ rfl)⟩
theorem Rd.famField (h:Rd C P Gl T n rs v post){t:Nat}{x:Operand}{f off ty:Nat}{j:TI}(k q:Nat)(h1:o.op = .fieldAddr t x f)(hf:fieldT T t f=some (off,ty))(hl:lkT T ty=some j)
 (hs:guardOf ops o L=some true∧dstOk n o=true∧L.ev x=atP k q∧okPair ops draw done o ⟨i,[],[]⟩ [] opl=true)
 (hnext:Go C (.reg ops draw (i+1) opl (nexts o draw ⟨i,[],[]⟩ done) todo (L.app o.dst ⟨atP k (q+off),[]⟩))):Go C (.reg ops draw i (o::opl) done todo L):=by
 obtain ⟨h2,h3,h4,h5⟩:=hs;refine reg_step (fp:=[]) (A:=⟨atP k (q+off),[]⟩) h2 (sem1_read (fun d hd=>by rw [h.n];exact dstOk_spec h3 d hd) fun L' hd F a w hev hfp hi=>?_) (by simp) (by simp [news]) (by simpa [upsMents,AV.ments] using h5) hnext;have e:=hev x (by simp [h1,Op.operands]);rw [h4] at e;have hp:=rep_atP e;refine ⟨.pointer (some ⟨k,q+off,none⟩),?_,.pv _ _ (.val _ rfl)⟩;simp [execOp,h1,hp,run_fieldAt h.tok hf hl,add_at]
theorem Rd.famLoad (h:Rd C P Gl T n rs v post){t:Nat}{x:Operand}{j:TI}{ty:Nat}{l:List (Nat × (List PV→Prop))}(r:Nm)(k q:Nat){p:List PV→Prop}(y:AV)(h1:o.op = .load t x)(hl:lkT T t=some j)(hk:(k,p)∈l)
 (hy:∀cs,p cs→takeAt j (cs.map .pv) q=some y) (hm:y.ments = []) (hs:guardOf ops o L=some true∧dstOk n o=true∧L.ev x=atP k q∧L.blk r=some (.fam ty l)∧okPair ops draw done o ⟨i,[r],[]⟩ [] opl=true)
 (hnext:Go C (.reg ops draw (i+1) opl (nexts o draw ⟨i,[r],[]⟩ done) todo (L.app o.dst ⟨y,[]⟩))):Go C (.reg ops draw i (o::opl) done todo L):=by
 obtain ⟨h2,h3,h4,h6,h5⟩:=hs;refine reg_step (fp:=[(r,.fam ty l)]) (A:=⟨y,[]⟩) h2 (sem1_read (fun d hd=>by rw [h.n];exact dstOk_spec h3 d hd) fun L' hd F a w hev hfp hi=>?_) (by simpa using h6) (by simp [news]) (by simpa [upsMents,hm] using h5) hnext;have e:=hev x (by simp [h1,Op.operands]);rw [h4] at e;have hp:=rep_atP e;have hb:=hi.blocks r;rw [hfp (r,.fam ty l) (by simp)] at hb;obtain ⟨_,b2⟩:=hb;obtain ⟨cs,arr,q1,q2,q3,q4,q5⟩:=b2 k p hk;obtain ⟨v',r1,r2⟩:=run_loadAt (P:=C.P) h.tok hl (w:=w) (F:=F) (hd:=hd) (ad:=⟨k,q,none⟩) (cs:=cs.map .pv) (off:=q) (x:=y) (fun j=>arr.toList.getD (q+j) undef) (fun j c hj=>by
  rw [List.getElem?_map] at hj;cases hcj:cs[q+j]? with
  |none=>rw [hcj] at hj;cases hj
  |some c'=>
   rw [hcj] at hj;cases hj;have hlt:q+j<arr.size:=(by rw [q3];exact (List.getElem?_eq_some_iff.1 hcj).1);have hg:arr.toList.getD (q+j) undef=arr[q+j]:=(by simp [List.getD_eq_getElem?_getD,hlt]);rw [hg,add_at,cell_at q2];exact ⟨by simp [hlt],.pv _ _ (q4 _ c' _ hcj (by simp [hlt])),q5 _ (by simp)⟩) (hy cs q1)
 exact ⟨v',by simp [execOp,h1,hp,Instr.loadAt,Instr.sureAddr,r1],r2⟩
end
end Go.Abs
namespace Go.Abs
open Go.RowKit Go.ChangeMaps Go.MapKept
open Go.Maps (Keyed)
section
variable {C:Ctx} {o:Oper} {ev:Operand→AV}
theorem sem1_getD {r:Nm}{t k e:Nat}{m x:Operand}{ok:Bool}{p:Value × AV}(hdst:∀d,o.dst=some d→d<C.fn.ntmps)(ho:o.op = .lookup t m x ok)(ht:C.P.underlying t=some (.map k e))(K:Keyed C.P k){zero:AV}(hz:∃z,(∀w,(zeroValue e).run C.P w = .ok z w)∧∀(w:World) (F:Nat→Prop) (hd:Nm→Hd),Rep w F hd zero z){key:Value}{kl:Lit}{l:Ents}{y:AV}
 (hm:ev m = .hmap r) (hx:keyIs (ev x) key) (hkey:keyOf C.P k key=some kl) (hf:foundG (l++[p]) key zero ok y) :
 Sem1 C o ev [(r,.gen (mapD C.P k l p))] ⟨y,[]⟩:=by
 refine sem1_read hdst fun L hd F a w hev hfp hi=>?_;have e1:=hev m (by simp [ho,Op.operands]);rw [hm] at e1;have hb:=hi.blocks r;rw [hfp (r,.gen (mapD C.P k l p)) (by simp)] at hb;obtain ⟨j,ob,q1,q2,q3⟩:=hb;have e1:a.eval m = .map (some j):=by cases e1 with|hmap _ _ _ h=>exact h j q1
 obtain ⟨es,_,rfl,hG,_,_⟩:=q3 w F (fun _ _=>rfl) (fun _ h=>h);have e2:=hx _ _ _ _ (hev x (by simp [ho,Op.operands]));obtain ⟨f1,f2⟩:=mapG_find K hG hkey;obtain ⟨z,hz,hzr⟩:=hz;rcases hf with ⟨h1,rfl⟩|⟨av,h1,rfl⟩
 ·refine ⟨if ok then .tuple #[z,.bool false] else z,?_,?_⟩
  ·simp [execOp,ho,e1,e2,Instr.lookup,run_underlying ht,getObj,Sem.run,q2,Result.andThen,K.check w _ hkey,f1 h1,hz]
   try cases ok<;>rfl
  ·cases ok with
   |false=>exact hzr w F hd
   |true=>exact rep_pair (hzr w F hd) (rep_val rfl)
 ·obtain ⟨i,v,g1,g2,g3⟩:=f2 av h1;refine ⟨if ok then .tuple #[v,.bool true] else v,?_,?_⟩
  ·simp [execOp,ho,e1,e2,Instr.lookup,run_underlying ht,getObj,Sem.run,q2,Result.andThen,K.check w _ hkey,g1]
   try cases ok<;>rfl
  ·cases ok with
   |false=>exact g2.bare g3
   |true=>exact rep_pair (g2.bare g3) (rep_val rfl)
end
section
variable {C:Ctx} {P:Program} {Gl:Granted} {T:TT} {n:Nat} {rs:List ResultVar} {v:AV} {post:List (Nm × Option Blk)} {ops:Array Oper} {i m:Nat} {o:Oper} {L:LS} {Kp:LS→Prop} {listed:Array Bool}
theorem Rd.raGet (h:Rd C P Gl T n rs v post){t k e:Nat}(ht:P.underlying t=some (.map k e))(K:Keyed P k)(r:Nm){mo x:Operand}{ok:Bool}{zero:AV}(hz:∃z,(∀w,(zeroValue e).run P w = .ok z w)∧∀(w:World) (F:Nat→Prop) (hd:Nm→Hd),Rep w F hd zero z){key:Value}{kl:Lit}{l:Ents}(y:AV)
 (ho:ops[i]?=some o) (h1:o.op = .lookup t mo x ok) (hkey:keyOf P k key=some kl) (hf:foundG l key zero ok y) (hx:keyIs (L.ev x) key) (hs:guardOf ops o L=some true∧dstOk n o=true∧L.ev mo = .hmap r∧L.blk r=some (.gen (mapC P k l)))
 (hK:RA C ops Kp m (listed.setIfInBounds i true) (L.app o.dst ⟨y,[]⟩)):RS C ops i L (RA C ops Kp m (listed.setIfInBounds i true)):=by
 obtain ⟨h2,h3,h4,h5⟩:=hs;have:=h.prog;subst this;exact ra_step ho h2 (sem1_getC (fun d hd=>by rw [h.n];exact dstOk_spec h3 d hd) h1 ht K hz h4 hx hkey hf) (by simpa using h5) (by simp [news]) hK
theorem Rd.raGetD (h:Rd C P Gl T n rs v post){t k e:Nat}(ht:P.underlying t=some (.map k e))(K:Keyed P k)(r:Nm){mo x:Operand}{ok:Bool}{zero:AV}(hz:∃z,(∀w,(zeroValue e).run P w = .ok z w)∧∀(w:World) (F:Nat→Prop) (hd:Nm→Hd),Rep w F hd zero z){key:Value}{kl:Lit}{l:Ents}{p:Value × AV}(y:AV)
 (ho:ops[i]?=some o) (h1:o.op = .lookup t mo x ok) (hkey:keyOf P k key=some kl) (hf:foundG (l++[p]) key zero ok y) (hx:keyIs (L.ev x) key) (hs:guardOf ops o L=some true∧dstOk n o=true∧L.ev mo = .hmap r∧L.blk r=some (.gen (mapD P k l p)))
 (hK:RA C ops Kp m (listed.setIfInBounds i true) (L.app o.dst ⟨y,[]⟩)):RS C ops i L (RA C ops Kp m (listed.setIfInBounds i true)):=by
 obtain ⟨h2,h3,h4,h5⟩:=hs;have:=h.prog;subst this;exact ra_step ho h2 (sem1_getD (fun d hd=>by rw [h.n];exact dstOk_spec h3 d hd) h1 ht K hz h4 hx hkey hf) (by simpa using h5) (by simp [news]) hK
theorem Rd.raEntry (h:Rd C P Gl T n rs v post){t k e:Nat}(ht:P.underlying t=some (.map k e))(K:Keyed P k)(r:Nm){mo x:Operand}{zero:AV}{z:Value}(hz:∀w,(zeroValue e).run P w = .ok z w)(hzr:∀(w:World) (F:Nat→Prop) (hd:Nm→Hd),Rep w F hd zero z)(hzm:zero.ments = []){key:Value}{kl:Lit}{l:Ents}
 (ho:ops[i]?=some o) (h1:o.op = .mapEntry t mo x) (hkey:keyOf P k key=some kl) (hf:∀p∈l,p.1≠key) (hx:keyIs (L.ev x) key) (hs:guardOf ops o L=some true∧dstOk n o=true∧L.ev mo = .hmap r∧L.blk r=some (.gen (mapC P k l)))
 (hK:RA C ops Kp m (listed.setIfInBounds i true) (L.app o.dst ⟨.tup [zero,.pv (.val (.int .i64 (l.length:Nat)))],[(r,some (.gen (mapD P k l (key,zero))))]⟩)):RS C ops i L (RA C ops Kp m (listed.setIfInBounds i true)):=by
 obtain ⟨h2,h3,h4,h5⟩:=hs;have:=h.prog;subst this;exact ra_step ho h2 (sem1_entryC (fun d hd=>by rw [h.n];exact dstOk_spec h3 d hd) h1 ht K hz hzr hzm h4 hx hkey hf) (by simpa using h5) (fun q hq=>by simp [news,Nm.eqb_iff] at hq) hK
theorem Rd.raStore (h:Rd C P Gl T n rs v post){t k:Nat}(r:Nm){mo s x:Operand}{key:Value}{zero av:AV}{l:Ents}(ho:ops[i]?=some o)(h1:o.op = .entryStore t mo s x)
 (hs:guardOf ops o L=some true∧dstOk n o=true∧L.ev mo = .hmap r∧L.ev s = .pv (.val (.int .i64 (l.length:Nat)))∧L.ev x=av∧av.ments = []∧L.blk r=some (.gen (mapD P k l (key,zero))))
 (hK:RA C ops Kp m (listed.setIfInBounds i true) (L.app o.dst ⟨.any,[(r,some (.gen (mapC P k (l++[(key,av)]))))]⟩)):RS C ops i L (RA C ops Kp m (listed.setIfInBounds i true)):=by
 obtain ⟨h2,h3,h4,h5,h6,h7,h8⟩:=hs;have:=h.prog;subst this;exact ra_step ho h2 (sem1_storeC (fun d hd=>by rw [h.n];exact dstOk_spec h3 d hd) h1 h4 h5 h6 h7) (by simpa using h8) (fun q hq=>by simp [news,Nm.eqb_iff] at hq) hK
end
end Go.Abs
