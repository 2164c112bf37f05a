/-
  FROM THE READING OF ARGUMENTS TO WHAT A CALL IS TOLD, AND BACK.
-/
import Derived.Test.YtkjfaanenmhlbaaGreatDoorAbsP
import Derived.ProofKit
import Derived.OpenShut
import Derived.Laws.BytesString
import Derived.Lib.AppendStr
import Derived.Lib.UnsafeStr
import Derived.Laws.StructEq
import Derived.BigFrame
import Derived.Laws.OwnMore
import Derived.Laws.IdiomStrings
import Derived.Laws.Cover4
import Derived.Lib.TrimUEq
set_option linter.unusedVariables false
set_option linter.unusedSimpArgs false
namespace Go.Abs
open Go.RowKit Go.ChangeShapes Go.WideShapes
theorem mapM_mk {α β:Type}{f:α→Option β}:∀ {l:List α} {xs:List β},xs.length=l.length→(∀(i:Nat) (x:α),l[i]?=some x→f x=xs[i]?)→l.mapM f=some xs
 |[],xs,hl,_=>by
  have:xs = []:=List.eq_nil_of_length_eq_zero (by simpa using hl);subst this;rfl
 |a::l,[],hl,_=>by simp at hl
 |a::l,x::xs,hl,h=>by
  have h0:=h 0 a rfl;have h1:=mapM_mk (l:=l) (xs:=xs) (by simpa using hl) (fun i y hy=>by simpa using h (i+1) y (by simpa using hy));simp at h0;simp [h0,h1]
section
variable {H:Type} {enc:TypeId × Value→H} {P:Program} {w:World} {base:Nat} {spare:Nat→Bool} {held:Bool} {t:TypeId} {cs:List Value}
theorem trod_struct_mk {fs:Array Field}(ht:P.underlying t=some (.struct fs))(hl:cs.length=P.cellsOf t){n:Nat}{xs:List (DataW H × List MemPlace)}(hx:xs.length=fs.size)
 (h:∀(i:Nat) (f:Field),fs[i]?=some f→DataW.trod enc P w base spare held n f.type ((cs.drop f.offset).take (P.cellsOf f.type))=xs[i]?) :
 DataW.trod enc P w base spare held (n+1) t cs=some (.agg (xs.map (·.1)),xs.flatMap (·.2)):=by
 have hm:fs.toList.mapM (fun f=>DataW.trod enc P w base spare held n f.type ((cs.drop f.offset).take (P.cellsOf f.type)))=some xs:=
  mapM_mk (by simpa using hx) fun i f hf=>h i f (by simpa using hf)
 unfold DataW.trod;rw [ht];split<;>simp_all
theorem trod_slice_nil {e:TypeId}(ht:P.underlying t=some (.slice e))(n:Nat):DataW.trod enc P w base spare held (n+1) t [.slice none 0 0]=some (.nil,[]):=by
 simp [DataW.trod,ht]
theorem trod_slice_mk {e:TypeId}(ht:P.underlying t=some (.slice e)){a:Addr}{len cap n:Nat}{elems rest:List (DataW H × List MemPlace)}(hb:base≤a.block)(hc:len≤cap)(hm:cap≤maxLen)(hle:elems.length=len)
 (he:∀i,i<len→(w.cells? base (a.add (i*P.cellsOf e)) (P.cellsOf e)).bind (DataW.trod enc P w base spare held n e)=elems[i]?)
 (hr:spare a.block=true→rest.length=cap-len∧∀j,j<cap-len→(w.cells? base (a.add ((len+j)*P.cellsOf e)) (P.cellsOf e)).bind (DataW.trod enc P w base spare held n e)=rest[j]?)
 (hr':spare a.block=false→rest = []):DataW.trod enc P w base spare held (n+1) t [.slice (some a) len cap] =
   some (.slice (elems.map (·.1)) (rest.map (·.1)),MemPlace.row a ((elems.length+rest.length)*P.cellsOf e)++(elems++rest).flatMap (·.2)):=by
 have h1:(List.range len).mapM (fun i=>(w.cells? base (a.add (i*P.cellsOf e)) (P.cellsOf e)).bind (DataW.trod enc P w base spare held n e))=some elems:=
  mapM_mk (by simp [hle]) fun i x hx=>by
   obtain ⟨hi,rfl⟩:=List.getElem?_eq_some_iff.1 hx;simp at hi ⊢;exact he i hi
 unfold DataW.trod;rw [ht];simp only [hb,hc,hm,and_self,if_true,h1,Option.bind_some];cases hs:spare a.block with
 |false=>simp [hr' hs]
 |true=>
  obtain ⟨q1,q2⟩:=hr hs;have h2:(List.range (cap-len)).mapM (fun j=>(w.cells? base (a.add ((len+j)*P.cellsOf e)) (P.cellsOf e)).bind (DataW.trod enc P w base spare held n e))=some rest:=
   mapM_mk (by simp [q1]) fun i x hx=>by
    obtain ⟨hi,rfl⟩:=List.getElem?_eq_some_iff.1 hx;simp at hi ⊢;exact q2 i hi
  simp [h2]
def Again (H:Type)(enc:TypeId × Value→H)(P:Program)(n:Nat)(t:TypeId):Prop:=∀(w w':World) (sp:Nat→Bool) (cs:List Value) (x:DataW H × List MemPlace),DataW.trod enc P w 0 (fun _=>true) true n t cs=some x→
 (∀p∈x.2,w.sameAt w' p)→(∀p∈x.2,sp p.block=true)→DataW.trod enc P w' 0 sp true n t cs=some x
theorem again_int {k:IntKind}(ht:P.underlying t=some (.int k))(n:Nat):Again H enc P n t:=by
 intro w w' sp cs x h _ _;obtain ⟨b,rfl,rfl,hw⟩:=DataW.trod_int ht h;cases n with
 |zero=>simp [DataW.trod] at h
 |succ n=>simp [DataW.trod,ht,hw]
theorem again_string (ht:P.underlying t=some .string)(n:Nat):Again H enc P n t:=by
 intro w w' sp cs x h _ _;obtain ⟨b,rfl,rfl,hw⟩:=DataW.trod_string ht h;cases n with
 |zero=>simp [DataW.trod] at h
 |succ n=>simp [DataW.trod,ht,hw]
theorem again_struct {fs:Array Field}(ht:P.underlying t=some (.struct fs))(n:Nat)(hf:∀m,m<n→∀(i:Nat) (f:Field),fs[i]?=some f→Again H enc P m f.type):Again H enc P n t:=by
 intro w w' sp cs x h hs hsp;obtain ⟨xs,m,rfl,rfl,hl,hx,hi⟩:=DataW.trod_struct ht h;refine trod_struct_mk ht hl hx fun i f hif=>?_;have h1:=hi i f hif;cases hxi:xs[i]? with
 |none=>
  have:=(Array.getElem?_eq_some_iff.1 hif).1;rw [←hx] at this;rw [List.getElem?_eq_none_iff] at hxi;omega
 |some y=>
  rw [hxi] at h1;have hmem:∀p∈y.2,p∈xs.flatMap (·.2):=fun p hp=>List.mem_flatMap.2 ⟨y,List.mem_of_getElem? hxi,hp⟩;exact hf m (by omega) i f hif w w' sp _ y h1 (fun p hp=>hs p (hmem p hp)) (fun p hp=>hsp p (hmem p hp))
theorem again_slice {e:TypeId}(ht:P.underlying t=some (.slice e))(h1:0<P.cellsOf e)(n:Nat)(hf:∀m,m<n→Again H enc P m e):Again H enc P n t:=by
 intro w w' sp cs x h hs hsp;rcases DataW.trod_slice ht h with ⟨rfl,rfl⟩|⟨a,len,cap,elems,rest,m,rfl,rfl,rfl,hb,hc,hm,hle,he,hr,_⟩
 ·cases n with
  |zero=>simp [DataW.trod] at h
  |succ n=>exact trod_slice_nil ht n
 ·obtain ⟨r1,r2⟩:=hr rfl;have hcell:∀(i:Nat),i<cap→∀y,(w.cells? 0 (a.add (i*P.cellsOf e)) (P.cellsOf e)).bind (DataW.trod enc P w 0 (fun _=>true) true m e)=some y→(∀p∈y.2,p∈(elems++rest).flatMap (·.2))→
   (w'.cells? 0 (a.add (i*P.cellsOf e)) (P.cellsOf e)).bind (DataW.trod enc P w' 0 sp true m e)=some y:=by
   intro i hi y hy hp;obtain ⟨c,hc1,hc2⟩:=Option.bind_eq_some_iff.1 hy;have:w'.cells? 0 (a.add (i*P.cellsOf e)) (P.cellsOf e)=some c:=World.cells?_carry hc1 fun p hp'=>hs p (List.mem_append.2 (.inl (MemPlace.mem_row.2 (by
    obtain ⟨k,hk,rfl⟩:=MemPlace.mem_row.1 hp';refine ⟨i*P.cellsOf e+k,?_,?_⟩
    ·rw [hle,r1];have:(i+1)*P.cellsOf e≤cap*P.cellsOf e:=Nat.mul_le_mul_right _ hi;rw [Nat.add_mul,Nat.one_mul] at this;have e1:len+(cap-len)=cap:=(by omega);rw [e1];omega
    ·unfold Addr.add;split
     ·rename_i h0;rw [h0];simp
     ·simp [Nat.add_assoc]))))
   rw [this];exact hf m (by omega) w w' sp c y hc2 (fun p hp'=>hs p (List.mem_append.2 (.inr (hp p hp')))) (fun p hp'=>hsp p (List.mem_append.2 (.inr (hp p hp'))))
  have hspa:cap=len∨sp a.block=true:=by
   by_cases h0:cap=0
   ·left;omega
   ·right;refine hsp (.cell a.block (a.off+0)) (List.mem_append.2 (.inl (MemPlace.mem_row.2 ⟨0,?_,rfl⟩)));rw [hle,r1];exact Nat.mul_pos (by omega) h1
  have hel:∀i,i<len→(w'.cells? 0 (a.add (i*P.cellsOf e)) (P.cellsOf e)).bind (DataW.trod enc P w' 0 sp true m e)=elems[i]?:=fun i hi=>by
   have h2:=he i hi;rw [List.getElem?_eq_getElem (by omega)] at h2 ⊢;exact hcell i (by omega) _ h2 fun p hp=>List.mem_flatMap.2 ⟨_,List.mem_append.2 (.inl (List.getElem_mem _)),hp⟩
  refine trod_slice_mk ht hb hc hm hle hel (fun hs=>⟨r1,fun j hj=>?_⟩) (fun hs=>?_)
  ·have h2:=r2 j hj;rw [List.getElem?_eq_getElem (by omega)] at h2 ⊢;exact hcell (len+j) (by omega) _ h2 fun p hp=>List.mem_flatMap.2 ⟨_,List.mem_append.2 (.inr (List.getElem_mem _)),hp⟩
  ·rcases hspa with h0|h0
   ·exact List.eq_nil_of_length_eq_zero (by omega)
   ·rw [h0] at hs;cases hs
theorem againAll {w w':World}{sp:Nat→Bool}:∀ {ts:List TypeId} {vs:List Value} {ds:List (DataW H)} {ps:List MemPlace},(∀t∈ts,∀n,Again H enc P n t)→DataW.TrodAll enc P w 0 (fun _=>true) true ts vs ds ps→(∀p∈ps,w.sameAt w' p)→(∀p∈ps,sp p.block=true)→
 DataW.TrodAll enc P w' 0 sp true ts vs ds ps
 |[],_,_,_,_,h,_,_=>by
  obtain ⟨rfl,rfl,rfl⟩:=trodAll_nil h;exact trodAll_mk0
 |t::ts,_,_,_,ha,h,hs,hsp=>by
  obtain ⟨v,vs,d,ds,p,q,rfl,rfl,rfl,⟨n,hn⟩,h2⟩:=trodAll_cons h;exact trodAll_cons_mk ⟨n,ha t (by simp) n w w' sp _ _ hn (fun p hp=>hs p (List.mem_append.2 (.inl hp))) (fun p hp=>hsp p (List.mem_append.2 (.inl hp)))⟩
   (againAll (fun t ht=>ha t (by simp [ht])) h2 (fun p hp=>hs p (List.mem_append.2 (.inr hp))) (fun p hp=>hsp p (List.mem_append.2 (.inr hp))))
end
theorem post_true {H:Type}{enc:TypeId × Value→H}{P:Program}{f:Func}{s:ChangeSpec}{W W':World}{args:Array Value}{ds gs:List (DataW H)}{before:List MemPlace}{tb:TypeId}(hv:s.vars = [])(hW:DataW.Whole enc P f.params.toList s.vars false W args.toList ds gs before)
 (hg:∀t∈f.params.toList,∀n,Again H enc P n t) (hb:Below W.heap.size W W') (hr:f.resultTypes = #[tb]) (ht:P.underlying tb=some .bool) (hfn:s.fn H (ds++gs)={ results:=[.lit (.bool true)],args:=ds }) :
 s.post enc P f false true false false W args (.bool true) W':=by
 have hlt:=hW.lt;have hW':=hW;obtain ⟨p,q,hA,hV,rfl,hz,hn⟩:=hW;rw [hv] at hV;obtain ⟨rfl,rfl⟩:=trodVars_none hV;have hsame:∀p'∈p,W.sameAt W' p':=fun p' hp=>hb.same (hlt p' (by simp [hp]));have hargs:∀sp:Nat→Bool,(∀p'∈p++[],sp p'.block=true)→DataW.TrodAll enc P W' 0 sp true f.params.toList args.toList ds p:=fun sp hsp=>againAll hg hA hsame fun p' hp=>hsp p' (by simp [hp]);have hres:∀(b:Nat) (sp:Nat→Bool) (hd:Bool),DataW.TrodAll enc P W' b sp hd f.resultTypes.toList ((Value.bool true).resultList f.resultTypes.size) [.lit (.bool true)] []:=fun b sp hd=>by
  rw [hr];exact trodAll_mk1 (shut_bool ht true)
 have hold:∀p'∈p++[],(fun b=>decide (b<W.heap.size)) p'.block=true:=fun p' hp=>by simpa using hlt p' hp
 have hvars:∀sp:Nat→Bool,DataW.TrodVars enc P W' sp s.vars (s.fn H (ds++[])).vars []:=fun sp=>by rw [hv,hfn];rfl
 exact ⟨ds,[],p++[],[],p,[],hW',by rw [hfn];exact hres _ _ _,by rw [hfn];exact hargs _ hold,hvars _,hb.frame _,fun h=>by cases h⟩
theorem calls_of {P:Program}{Gl:Granted}{g:FuncId}{args:List AV}{u:Value}(h:Fun P Gl g args [] (.pv (.val u)) [])(w:World)(cargs:List Value)(hg:Gl.p w fun k=>k<w.heap.size)(hl:cargs.length=args.length)
 (hr:∀(j:Nat) (x:AV) (c:Value),args[j]?=some x→cargs[j]?=some c→Rep w (fun k=>k<w.heap.size) (fun _=>.dead) x c):Calls P g cargs.toArray w fun e w'=>e = .returned u∧Below w.heap.size w w':=by
 refine (h.calls w (fun k=>k<w.heap.size) (fun _=>.dead) cargs hg ⟨fun k hk=>hk,fun r s k _ h=>h.elim,fun r k h=>h.elim,fun r=>rfl⟩ hl hr).mono fun e w' he=>?_;obtain ⟨cv,F,hd,rfl,hrep,hlies,hleft⟩:=he;refine ⟨by rw [bool_of hrep],⟨hleft.os,hleft.tape,hleft.output,hleft.size,fun k hk=>hleft.old k hk fun ⟨s,hs⟩=>hs.elim⟩⟩
end Go.Abs
namespace Go.Abs
open Go.RowKit Go.ChangeMaps Go.MapKept
open Go.Maps (Keyed Tidy IsMap)
section
variable {C:Ctx} {P:Program} {Gl:Granted} {T:TT} {n:Nat} {rs:List ResultVar} {v:AV} {post:List (Nm × Option Blk)} {ops:Array Oper} {i:Nat} {o:Oper} {opl:List Oper} {done:List Trace} {todo:List Item} {L:LS}
abbrev mapIs (P:Program)(k e:Nat)(D:DataW Unit):Obj→Prop:=mapQ P k e (· = D)
theorem Rd.makeIs (h:Rd C P Gl T n rs v post){d t:Nat}(k e:Nat)(h1:o.op = .makeMap t none)(h2:o.dst=some d)(hs:Nat.blt d n=true∧guardOf ops o L=some true∧newOk L (.loc d)=true)
 (hnext:Go C (.reg ops false (i+1) opl [] todo (L.app o.dst ⟨.hmap (.loc d),[(.loc d,some (.raw (mapIs P k e (.map []))))]⟩))):Go C (.reg ops false i (o::opl) done todo L):=by
 obtain ⟨h3,h4,h5⟩:=hs;obtain ⟨n1,n2⟩:=newOk_spec h5;have:=h.prog;subst this;exact reg_step h4 (sem1_makeMap h2 (by rw [h.n];exact Nat.blt_eq.mp h3) h1 k e (· = .map []) rfl) (by simp) (fun r hr=>by
  simp [news] at hr;subst hr;exact ⟨n1,n2,by simp [mayMake1,h2,h1,makes]⟩) rfl hnext
theorem Rd.isGet (h:Rd C P Gl T n rs v post){t k e:Nat}{q:IntKind}(ht:P.underlying t=some (.map k e))(he:P.underlying e=some (.int q))(hz:∀w,(zeroValue e).run P w = .ok (.int q 0) w)(K:Keyed P k)(r:Nm){m x:Operand}{D:DataW Unit}{key:Value}{kl:Lit}{c:Int}
 (h1:o.op = .lookup t m x false) (hkey:keyOf P k key=some kl) (hc:D.atKey kl (.lit (.int q 0)) = .lit (.int q c))
 (hs:guardOf ops o L=some true∧dstOk n o=true∧L.ev m = .hmap r∧L.ev x = .pv (.val key)∧L.blk r=some (.raw (mapIs P k e D)))
 (hnext:Go C (.reg ops false (i+1) opl [] todo (L.app o.dst ⟨.pv (.val (.int q c)),[]⟩))):Go C (.reg ops false i (o::opl) done todo L):=by
 obtain ⟨h2,h3,h4,h5,h6⟩:=hs;have:=h.prog;subst this;exact reg_step (fp:=[(r,.raw (mapIs C.P k e D))]) h2 (sem1_lookup (fun d hd=>by rw [h.n];exact dstOk_spec h3 d hd) h1 ht he hz K (A:=(· = D)) _ (.inr ⟨r,h4,by simp⟩) h5 hkey (fun D' hA=>by rw [hA];exact hc)) (by simpa using h6) (by simp [news]) rfl hnext
theorem Rd.isPut (h:Rd C P Gl T n rs v post){t k e:Nat}(ht:P.underlying t=some (.map k e))(K:Keyed P k)(r:Nm){m x y:Operand}{D:DataW Unit}{key val:Value}{kl:Lit}{d:DataW Unit}
 (h1:o.op = .mapUpdate t m x y) (hkey:keyOf P k key=some kl) (hval:plainElem P e val=some (d,[])) (hsz:Maps.size D<maxLen)
 (hs:guardOf ops o L=some true∧dstOk n o=true∧L.ev m = .hmap r∧L.ev x = .pv (.val key)∧L.ev y = .pv (.val val)∧L.blk r=some (.raw (mapIs P k e D)))
 (hnext:Go C (.reg ops false (i+1) opl [] todo (L.app o.dst ⟨.any,[(r,some (.raw (mapIs P k e (D.put kl d))))]⟩))):Go C (.reg ops false i (o::opl) done todo L):=by
 obtain ⟨h2,h3,h4,h5,h6,h7⟩:=hs;have:=h.prog;subst this;exact reg_step h2 (sem1_update (fun d hd=>by rw [h.n];exact dstOk_spec h3 d hd) (.inl h1) ht K (A:=(· = D)) (A':=(· = D.put kl d)) h4 h5 h6 hkey hval (fun D' _ hA=>by rw [hA];exact ⟨hsz,rfl⟩)) (by simpa using h7) (fun q hq=>by simp [news,Nm.eqb_iff] at hq) rfl hnext
end
end Go.Abs
namespace Go.Abs
open Go.RowKit
abbrev byteRow (l:List UInt8):List (List PV):=l.map fun c=>[.val (.int .u8 c.toNat)]
theorem byteRow_len (l:List UInt8):(byteRow l).length=l.length:=by simp
theorem run_append_own_str' {P:Program}{w:World}(t u ty e:TypeId)(i:TypeInfo)(ht:P.underlying t=some (.slice e))(hu:P.underlying u=some .string)(hi:P.info? e=some i)(hz:i.zero=some (.int .u8 0))
 (hsize:i.size=1) (hby:i.bytes=1) (v:Value) (n:Nat) (xs:List Value) (hown:w.ownsRow 0 e 1 v n xs) (s:ByteArray) (hbytes:n+s.size≤140737488355328) :
 ∃v' w',(Builtin.append_ #[t,u] ty #[v,.string s]).run P w = .ok v' w'∧w'.ownsRow 0 e 1 v' (n+s.size) (xs++Lib.strCells s)∧w.grownBy w' v.ownBlock∧(∀k,v'.ownBlock=some k→w.heap.size≤k∨v.ownBlock=some k):=by
 obtain ⟨v',w',r1,r2,r3,r4⟩:=Lib.run_append_own_string (P:=P) w 0 t u ty e i ht hu hi hz hsize hby v n xs hown s (by simp only [maxLen];omega) hbytes (Nat.zero_le _);refine ⟨v',w',r1,r2,r3,fun k hk=>?_⟩;rcases hown.2 with ⟨rfl,hn0⟩|⟨g,cap,cur,rfl,_,hg,hnc,hcm,hcs,htk⟩
 ·by_cases hm:s.size=0
  ·have:=r4.2 ⟨rfl,hm⟩;subst this;simp [Value.ownBlock] at hk
  ·have:=run_append_nil_string (P:=P) w t u ty e i _ ht hu hi hz s (by omega) (by omega) (by rw [hby];omega);rw [r1] at this;injection this with f1 f2
   subst f1;simp only [Value.ownBlock,Option.some.injEq] at hk;exact .inl (by omega)
 ·by_cases hroom:n+s.size≤cap
  ·have:=Lib.run_append_room_string (P:=P) w t u ty e i ht hu hi hsize g n cap cur hg s hroom (by omega);rw [r1] at this;injection this with f1 f2
   subst f1;exact .inr hk
  ·have holds:∀j u,xs[j]?=some u→w.cell? ((⟨g,0,none⟩:Addr).add j)=some u:=hown.cells (g:=g) rfl;have:=Lib.run_append_grow_string (P:=P) w t u ty e i _ ht hu hi hz ⟨g,0,none⟩ n cap xs (by rw [hsize];exact hown.1) holds s (by omega) (by omega) (growslice_fits (by omega) (by rw [hby,Nat.mul_one];exact hbytes));rw [r1] at this;injection this with f1 f2
   subst f1;simp only [Value.ownBlock,Option.some.injEq] at hk;exact .inl (by omega)
section
variable {C:Ctx} {P:Program} {Gl:Granted} {T:TT} {n:Nat} {rs:List ResultVar} {v:AV} {post:List (Nm × Option Blk)} {ops:Array Oper} {i:Nat} {o:Oper} {opl:List Oper} {done:List Trace} {todo:List Item} {L:LS}
theorem Rd.appStr (h:Rd C P Gl T n rs v post){t u e d:Nat}{x y:Operand}{c:Call}{r:Nm}{l:List UInt8}{s:ByteArray}(hI:∃iF,P.info? e=some iF∧iF.size=1∧iF.bytes=1∧iF.zero=some (.int .u8 0))(h1:o.op = .call c)(hc:c.callee = .builtin .append)(hx:c.args = #[x,y])(ht:c.argTypes = #[t,u])(hd:o.dst=some d)
 (hT:sliceE T t=some e∧isStrT T u=true)
 (hst:Nat.blt d n=true∧guardOf ops o L=some true∧newOk L (.loc d)=true∧L.ev x = .own r∧L.blk r=some (.row e 1 (byteRow l))∧L.ev y = .pv (.val (.string s)))
 (hlen:l.length+s.size≤140737488355328)
 (hnext:Go C (.reg ops false (i+1) opl [] todo (L.app o.dst ⟨.own (.loc d),[(r,none),(.loc d,some (.row e 1 (byteRow (l++s.data.toList))))]⟩))):Go C (.reg ops false i (o::opl) done todo L):=by
 obtain ⟨t1,t2⟩:=hT;obtain ⟨iF,j1,t4,t5,hz⟩:=hI;have hpr:=h.prog;subst hpr;obtain ⟨h3,h4,h5,h6,h7,h8⟩:=hst;obtain ⟨n1,n2⟩:=newOk_spec h5;have hTT:=h.tok;have hne:r≠.loc d:=fun e=>by rw [e,n1] at h7;cases h7
 have hne':r.eqb (.loc d)=false:=by
  cases hh:r.eqb (.loc d) with
  |false=>rfl
  |true=>exact absurd ((Nm.eqb_iff _ _).1 hh) hne
 have hrr:r.eqb r=true:=(Nm.eqb_iff _ _).2 rfl;refine reg_step (fp:=[(r,.row e 1 (byteRow l))]) h4 (sem1_of (fun d' hd'=>by rw [hd] at hd';cases hd';rw [h.n];exact Nat.blt_eq.mp h3) fun L' hd' F a w hev hfp hnew hi=>?_) (by simpa using h7) (fun q hq=>?_) rfl hnext
 ·obtain ⟨m1,m2⟩:=hnew (.loc d) (by simp [news,hne']);have hmx:x∈o.op.operands.toList:=by simp [h1,Op.operands,Call.operands,hx,hc]
  have hmy:y∈o.op.operands.toList:=by simp [h1,Op.operands,Call.operands,hx,hc]
  have hblk:=hi.blocks r;rw [hfp (r,.row e 1 (byteRow l)) (by simp)] at hblk;obtain ⟨v0,cells,q1,q2,q3,q4,q5⟩:=hblk;have hv:=hev x hmx;rw [h6] at hv;have e0:a.eval x=v0:=by cases hv with|own _ _ _ hp=>exact hp v0 q1
  have hy:=hev y hmy;rw [h8] at hy;have e1:=bool_of hy;obtain ⟨v',w',r1,r2,r3,r4⟩:=run_append_own_str' (P:=C.P) (w:=w) t u o.type e iF (sliceE_ok hTT t1) (isStrT_ok hTT t2) j1 hz t4 t5 v0 l.length cells (by simpa using q2) s hlen;obtain ⟨hd2,k1,k2⟩:=inv_row hi (r:=.loc d) (by simp) m1 m2 (some r) v0 v' (fun r0 hr=>by cases hr;exact ⟨q1,hne⟩) (by simp) r3 e 1 (byteRow (l++s.data.toList)) (cells++Lib.strCells s) (by
   have:(byteRow (l++s.data.toList)).length=l.length+s.size:=(by simp);rw [this];exact r2) (fun k el hk=>by
   simp only [byteRow,List.getElem?_map,Option.map_eq_some_iff] at hk;obtain ⟨c,_,rfl⟩:=hk;rfl) (fun k j el c u a1 a2 a3=>by
   have hcl:cells.length=l.length:=(by have:=q2.1;simpa using this);simp only [byteRow,List.getElem?_map,Option.map_eq_some_iff] at a1;obtain ⟨b,hb,rfl⟩:=a1
   match j,a2 with
   |0,a2=>
    simp at a2;subst a2;simp only [Nat.mul_one,Nat.add_zero] at a3;rw [List.getElem?_append] at a3 hb;by_cases hk:k<l.length
    ·rw [if_pos (by omega)] at a3;rw [if_pos hk] at hb;exact q4 k 0 _ _ u (by simp only [byteRow,List.getElem?_map,hb];rfl) rfl (by simpa using a3)
    ·rw [if_neg (by omega),hcl] at a3;rw [if_neg hk] at hb;simp only [Lib.strCells,List.getElem?_map,hb,Option.map_some,Option.some.injEq] at a3;subst a3;exact .val _ rfl
   |j+1,a2=>simp at a2) (fun u hu=>by
   rcases List.mem_append.1 hu with hh|hh
   ·exact q5 u hh
   ·exact Lib.strCells_oneCell s u hh) r4
  refine ⟨v',w',hd2,F,.inl ?_,k1,k2⟩;simp [execOp,h1,resolve,hc,hx,ht,invoke,builtin,e0,e1,r1]
 ·simp only [news,List.map_cons,List.map_nil] at hq;obtain ⟨g1,g2⟩:=List.mem_filter.1 hq;simp at g1 g2;rcases g1 with rfl|rfl
  ·rw [hrr] at g2;cases g2
  ·exact ⟨n1,n2,by simp [mayMake1,hd,h1,makes,hc]⟩
end
end Go.Abs
namespace Go.Abs
open Go.RowKit
def outs:Nat→List Blk→List (Nm × Option Blk)
 |_,[]=>[]
 |j,b::l=>(.out j,some b)::outs (j+1) l
theorem lkH_outs (l:List Blk)(n:Nat)(r:Nm):lkH (outs n l) r=match r with
 |.out i=>if n≤i then l[i-n]? else none
 |_=>none:=by
 induction l generalizing n with
 |nil=>cases r<;>simp [outs,lkH]
 |cons b l ih=>
  cases r with
  |out i=>
   simp only [outs,lkH,Nm.eqb,Nat.beq_eq,ih];by_cases h:n=i
   ·subst h;simp
   ·by_cases h2:n+1≤i
    ·have h3:n≤i:=(by omega);simp only [h,if_false,h2,if_true,h3,show i-n=(i-(n+1))+1 by omega,List.getElem?_cons_succ]
    ·have h3:¬n≤i:=(by omega);simp [h,h2,h3]
  |_=>simp [outs,lkH,Nm.eqb,ih]
theorem lkH_app (l:List (Option Blk))(n:Nat)(rest:List (Nm × Option Blk))(r:Nm):lkH (keyed n l++rest) r=match r with
 |.arg i=>if n≤i∧i<n+l.length then (l[i-n]?).getD none else lkH rest (.arg i)
 |r=>lkH rest r:=by
 induction l generalizing n with
 |nil=>cases r<;>simp [keyed]<;>intros<;>omega
 |cons b l ih=>
  cases r with
  |arg i=>
   simp only [keyed,List.cons_append,lkH,Nm.eqb,Nat.beq_eq,ih,List.length_cons];by_cases h:n=i
   ·subst h;simp
   ·by_cases h2:n+1≤i∧i<n+1+l.length
    ·have h3:n≤i∧i<n+(l.length+1):=(by omega);simp only [h,if_false,h2,if_true,h3,and_self,show i-n=(i-(n+1))+1 by omega,List.getElem?_cons_succ]
    ·have h3:¬(n≤i∧i<n+(l.length+1)):=(by omega);rw [if_neg h,if_neg h2,if_neg h3]
  |_=>simp [keyed,lkH,Nm.eqb,ih]
def qName (n i:Nat):Nm:=if i<n then .arg i else .out (i-n)
theorem qName_inj {n i j:Nat}(h:qName n i=qName n j):i=j:=by
 unfold qName at h;split at h<;>split at h<;>simp at h<;>omega
theorem lkH_handed (post:List (Option Blk))(xs:List Blk)(i:Nat):lkH (keyed 0 post++outs 0 xs) (qName post.length i)=((post++xs.map some)[i]?).getD none:=by
 unfold qName;by_cases h:i<post.length
 ·rw [if_pos h,lkH_app];simp only [Nat.zero_le,true_and,Nat.zero_add,h,if_true,Nat.sub_zero];rw [List.getElem?_append_left h]
 ·rw [if_neg h,lkH_app];simp only;rw [lkH_outs,List.getElem?_append_right (by omega),List.getElem?_map];simp only [Nat.zero_le,if_true,Nat.sub_zero];cases xs[i-post.length]?<;>rfl
structure FunO (P:Program) (Gl:Granted) (g:FuncId) (args:List AV) (pre:List (Option Blk)) (v:AV) (post:List (Option Blk)) (xs:List Blk):Prop where
 fn:∃fng,P.funcs[g]?=some fng∧(fng.name == "runtime.NumGoroutine")=false∧fng.body.isNone=false
 calls:∀(w0:World) (F0:Nat→Prop) (hd0:Nm→Hd) (cargs:List Value),Gl.p w0 F0→Lies w0 F0 hd0 (keyed 0 pre)→cargs.length=args.length→(∀(j:Nat) (x:AV) (c:Value),args[j]?=some x→cargs[j]?=some c→Rep w0 F0 hd0 x c)→
  Calls P g cargs.toArray w0 (ownR w0 F0 hd0 (keyed 0 post++outs 0 xs) v)
theorem funO_of {P:Program}{Gl:Granted}{f:FuncId}{fn:Func}{c:Code}{args:List AV}{pre post:List (Option Blk)}{xs:List Blk}{v:AV}{T:TT}{n:Nat}{rs:List ResultVar}(hf:P.funcs[f]?=some fn)(hname:(fn.name == "runtime.NumGoroutine")=false)(hb:fn.body=some c)(hn:fn.ntmps=n)(hrs:fn.results.toList=rs)
 (hT:TOk P T) (hm:P.follows .mixedOrders=true) (hl:args.length≤n) (h:∀C,Rd C P Gl T n rs v (keyed 0 post++outs 0 xs)→Go C (.top [.code c] (LS.start args pre))):FunO P Gl f args pre v post xs:=
 ⟨⟨fn,hf,hname,by rw [hb];rfl⟩,own_calls hf hb (by rw [hn];exact hl) fun w0 F0 hd0=>h _ ⟨rfl,rfl,hT,hn,hm,fun L x h1 h2 h3=>⟨go_done hT hf (by rw [hrs];exact h1) h2 h3,fun k=>go_ret hT hf (by rw [hrs];exact h1) h2 h3⟩⟩⟩
def backO (ns os:List Nm):Nm→Nm
 |.arg i=>ns.getD i (.arg i)
 |.out j=>os.getD j (.out j)
 |r=>r
def upsR (ρ:Nm→Nm):List Nm→List (Option Blk)→List (Nm × Option Blk)
 |s::l,b::post=>(s,b.map (Blk.ren ρ))::upsR ρ l post
 |_,_=>[]
theorem upsR_get {ρ:Nm→Nm}{l:List Nm}{post:List (Option Blk)}{s:Nm}{b:Option Blk}(h:upsGet (upsR ρ l post) s=some b):∃(i:Nat) (c:Option Blk),l[i]?=some s∧post[i]?=some c∧b=c.map (Blk.ren ρ):=by
 induction l generalizing post with
 |nil=>simp [upsR,upsGet] at h
 |cons x l ih=>
  cases post with
  |nil=>simp [upsR,upsGet] at h
  |cons c post=>
   simp only [upsR,upsGet] at h;cases hg:upsGet (upsR ρ l post) s with
   |some y=>
    rw [hg] at h;cases h;obtain ⟨i,c',h1,h2,h3⟩:=ih hg;exact ⟨i+1,c',by simpa using h1,by simpa using h2,h3⟩
   |none=>
    rw [hg] at h;by_cases hx:x=s
    ·simp [hx] at h;exact ⟨0,c,by simp [hx],rfl,h.symm⟩
    ·simp [hx] at h
theorem upsR_keys (ρ:Nm→Nm):∀(l:List Nm) (post:List (Option Blk)),post.length=l.length→(upsR ρ l post).map (·.1)=l
 |[],_,_=>by simp [upsR]
 |s::l,[],h=>by simp at h
 |s::l,b::post,h=>by simp [upsR,upsR_keys ρ l post (by simpa using h)]
theorem upsGet_some {ups:List (Nm × Option Blk)}{r:Nm}(h:r∈ups.map (·.1)):upsGet ups r≠none:=by
 induction ups with
 |nil=>simp at h
 |cons y l ih=>
  obtain ⟨k,b⟩:=y;intro hn;simp only [upsGet] at hn;cases hl:upsGet l r with
  |some z=>rw [hl] at hn;cases hn
  |none=>
   rw [hl] at hn;by_cases hk:k=r
   ·simp [hk] at hn
   ·rcases List.mem_cons.1 h with h|h
    ·exact hk h.symm
    ·exact ih h hl
def onlyIO (n m:Nat):List Nm→Bool
 |[]=>true
 |.arg i::l=>Nat.blt i n&&onlyIO n m l
 |.out i::l=>Nat.blt i m&&onlyIO n m l
 |_::_=>false
theorem onlyIO_spec {n m:Nat}{l:List Nm}(h:onlyIO n m l=true):∀r∈l,(∃i,r = .arg i∧i<n)∨(∃i,r = .out i∧i<m):=by
 induction l with
 |nil=>intro r hr;cases hr
 |cons x l ih=>
  cases x with
  |arg i=>
   simp only [onlyIO,Bool.and_eq_true,Nat.blt_eq] at h;intro r hr;rcases List.mem_cons.1 hr with rfl|hr
   ·exact .inl ⟨i,rfl,h.1⟩
   ·exact ih h.2 r hr
  |out i=>
   simp only [onlyIO,Bool.and_eq_true,Nat.blt_eq] at h;intro r hr;rcases List.mem_cons.1 hr with rfl|hr
   ·exact .inr ⟨i,rfl,h.1⟩
   ·exact ih h.2 r hr
  |_=>simp [onlyIO] at h
theorem inName_mem {ns:List Nm}{s:Nm}(hs:s∈ns):∃i,inName ns s = .arg i∧ns[i]?=some s:=by
 rcases inName_go (ns:=ns) (s:=s) (l:=ns) (i:=0) (fun j=>by simp) with e|⟨j,e,hj⟩
 ·exfalso;have:∀(l:List Nm) (i:Nat),s∈l→inName.go s l i≠.out 0:=by
   intro l;induction l with
   |nil=>intro i hs;cases hs
   |cons x l ih=>
    intro i hs;simp only [inName.go];split
    ·simp
    ·rename_i hx;rcases List.mem_cons.1 hs with rfl|hs
     ·exact absurd ((Nm.eqb_iff _ _).2 rfl) hx
     ·exact ih _ hs
  exact this ns 0 hs e
 ·exact ⟨j,e,hj⟩
theorem inName_not {ns:List Nm}{s:Nm}(hs:s∉ns):inName ns s = .out 0:=by
 rcases inName_go (ns:=ns) (s:=s) (l:=ns) (i:=0) (fun j=>by simp) with e|⟨j,e,hj⟩
 ·exact e
 ·exact absurd (List.mem_of_getElem? hj) hs
structure FunE (P:Program) (Gl:Granted) (g:FuncId) {ι:Type} (args:List AV) (pre:List (Option Blk)) (v:ι→AV) (post:List (Option Blk)) (xs:ι→List Blk):Prop where
 fn:∃fng,P.funcs[g]?=some fng∧(fng.name == "runtime.NumGoroutine")=false∧fng.body.isNone=false
 calls:∀(w0:World) (F0:Nat→Prop) (hd0:Nm→Hd) (cargs:List Value),Gl.p w0 F0→Lies w0 F0 hd0 (keyed 0 pre)→cargs.length=args.length→(∀(j:Nat) (x:AV) (c:Value),args[j]?=some x→cargs[j]?=some c→Rep w0 F0 hd0 x c)→
  Calls P g cargs.toArray w0 fun e w=>∃z,ownR w0 F0 hd0 (keyed 0 post++outs 0 (xs z)) (v z) e w
theorem step_callE {C:Ctx}{o:Oper}{L:LS}{c:Call}{x:Operand}{g:FuncId}{first caps:List AV}{args:List AV}{ns os:List Nm}{ι:Type}{pre post:List (Option Blk)}{xs:ι→List Blk}{v:ι→AV}(hdst:∀d,o.dst=some d→d<C.fn.ntmps)(ho:o.op = .call c)(hc:c.callee = .value x)
 (hx:L.ev x = .fn (.func g) first caps)
 (hargs:AV.ren.renL (inName ns) (first++evL L c.args.toList++caps)=args) (hpre:renBs (inName ns) (blksOf L ns)=pre) (hall:∀s∈ns,∃b,L.blk s=some b) (hnd:(ns++os).Nodup) (hlen:post.length=ns.length) (hlen2:∀z,(xs z).length=os.length)
 (hnoarg:∀s∈os,∀i,s≠.arg i)
 (hv:∀z,onlyIO ns.length os.length (v z).ments=true) (hpost:∀z,onlyIO ns.length os.length (blksMents (post++(xs z).map some))=true) (h:FunE C.P C.Gl g args pre v post xs)
 {L':LS} {hd:Nm→Hd} {F:Nat→Prop} {a:Act} {w:World} (hev:∀y∈o.op.operands.toList,L'.ev y=L.ev y) (hfp:∀s∈ns,L'.blk s=L.blk s) (hnew:∀s∈os,L'.blk s=none∧L'.Fresh s) (hi:Inv C L' hd F a w) (K:Act→World→Prop) (Q:Exit→Act→World→Prop)
 (hK:∀z a' w' hd' F',Inv C (L'.app o.dst ⟨(v z).ren (backO ns os),upsR (backO ns os) (ns++os) (post++(xs z).map some)⟩) hd' F' a' w'→K a' w'):o.wp C.P a w K Q:=by
 have hblk:∀s∈ns,L'.blk s=L.blk s:=hfp;have hfresh:∀s∈os,L'.blk s=none∧L'.Fresh s∧∀i,s≠.arg i:=fun s hs=>⟨(hnew s hs).1,(hnew s hs).2,hnoarg s hs⟩;have hops:∀y∈c.args.toList,y∈o.op.operands.toList:=fun y hy=>by simp [ho,Op.operands,Call.operands,hc];right;simpa using hy
 have hxo:x∈o.op.operands.toList:=by simp [ho,Op.operands,Call.operands,hc]
 obtain ⟨⟨fng,hf,hn,hb⟩,h⟩:=h;have hxv:=ev_rep hi x;rw [hev x hxo,hx] at hxv;generalize hz:a.eval x=z0 at hxv;cases hxv with
 |fn _ _ _ va vb q1 q2 q3 q4=>
  -- the arguments
  have hreps:∀(j:Nat) (y:AV) (u:Value),(first++evL L c.args.toList++caps)[j]?=some y→(va++c.args.toList.map a.eval++vb)[j]?=some u→Rep w F hd y u:=by
   intro j y u hj hu;have he:(evL L c.args.toList).length=(c.args.toList.map a.eval).length:=(by simp [evL_len]);rw [List.getElem?_append,List.length_append] at hj hu;rw [←q1,he] at hj;by_cases h1:j<va.length+(c.args.toList.map a.eval).length
   ·rw [if_pos h1] at hj hu;rw [List.getElem?_append] at hj hu;rw [←q1] at hj;by_cases h2:j<va.length
    ·rw [if_pos h2] at hj hu;exact q3 j y u hj hu
    ·rw [if_neg h2] at hj hu;rw [evL_get] at hj;rw [List.getElem?_map] at hu;cases hqj:c.args.toList[j-va.length]? with
     |none=>rw [hqj] at hj;cases hj
     |some p=>
      rw [hqj] at hj hu;cases hj;cases hu;have hp:=ev_rep hi p;rw [hev p (hops p (List.mem_of_getElem? hqj))] at hp;exact hp
   ·rw [if_neg h1] at hj hu;exact q4 _ y u hj hu
  have hreps':∀(j:Nat) (y:AV) (u:Value),args[j]?=some y→(va++c.args.toList.map a.eval++vb)[j]?=some u→Rep w F (inHd ns hd) y u:=by
   intro j y u hj hu;rw [←hargs,renL_get] at hj;cases hlj:(first++evL L c.args.toList++caps)[j]? with
   |none=>rw [hlj] at hj;cases hj
   |some p=>rw [hlj] at hj;cases hj;exact (hreps j p u hlj hu).ren fun r _=>inHd_in ns hd r
  -- the blocks
  have hinown:∀r k,(inHd ns hd r).owns k→∃i s,r = .arg i∧ns[i]?=some s∧(hd s).owns k:=by
   intro r k hk;cases r with
   |arg i=>
    simp only [inHd] at hk;cases hi':ns[i]? with
    |none=>rw [hi'] at hk;exact hk.elim
    |some s=>rw [hi'] at hk;exact ⟨i,s,rfl,hi',hk⟩
   |_=>exact hk.elim
  have hndn:ns.Nodup:=(List.nodup_append.1 hnd).1;have hnsinj:∀i j s,ns[i]?=some s→ns[j]?=some s→i=j:=fun i j s h1 h2=>by
   have hl1:=(List.getElem?_eq_some_iff.1 h1).1;exact (List.getElem?_inj hl1 hndn).1 (h1.trans h2.symm)
  have hinj:∀i j s,(ns++os)[i]?=some s→(ns++os)[j]?=some s→i=j:=fun i j s h1 h2=>by
   have hl1:=(List.getElem?_eq_some_iff.1 h1).1;exact (List.getElem?_inj hl1 hnd).1 (h1.trans h2.symm)
  have hlies:Lies w F (inHd ns hd) (keyed 0 pre):=by
   refine ⟨fun k hk=>(hi.fin k hk).1,fun r s k hne h1 h2=>?_,fun r k hk=>?_,fun r=>?_⟩
   ·obtain ⟨i,s1,rfl,e1,o1⟩:=hinown r k h1;obtain ⟨j,s2,rfl,e2,o2⟩:=hinown s k h2;have:s1≠s2:=fun e=>hne (by rw [hnsinj i j s1 e1 (e ▸ e2)]);exact hi.sep s1 s2 k this o1 o2
   ·obtain ⟨i,s1,rfl,e1,o1⟩:=hinown r k hk;exact ⟨(hi.mine s1 k o1).1,(hi.mine s1 k o1).2.1⟩
   ·rw [lkH_keyed];cases r with
    |arg i=>
     simp only [Nat.zero_le,if_true,Nat.sub_zero];rw [←hpre,renBs_get,blksOf_get];cases hi':ns[i]? with
     |none=>simp [HoldB,inHd,hi']
     |some s=>
      have hs:=List.mem_of_getElem? hi';obtain ⟨b,hb⟩:=hall s hs;have hbl:=hi.blocks s;rw [hblk s hs,hb] at hbl;simp only [Option.map_some,hb,Option.getD_some];exact hbl.ren (by simp [inHd,hi']) fun m _=>inHd_in ns hd m
    |_=>exact rfl
  have hcall:=h w F (inHd ns hd) (va++c.args.toList.map a.eval++vb) hi.gl hlies (by rw [←hargs,renL_len];simp [q1,q2,evL_len]) hreps';have hrun:(execOp a.eval o).run C.P w = .ok (.enter g (va++c.args.toList.map a.eval++vb).toArray) w:=by
   have e:(va++c.args.toList.map a.eval++vb).toArray=va.toArray++c.args.map a.eval++vb.toArray:=by
    apply Array.ext';simp
   have hb':¬fng.body=none:=fun h=>by rw [h] at hb;cases hb
   have hn':¬fng.name = "runtime.NumGoroutine":=(by simpa using hn);simp [execOp,ho,resolve,hc,hz,Deferred.ofValue,invoke,callFunc,hf,hn',hb']
  unfold Oper.wp;rw [hrun];refine hcall.mono fun e w' he=>?_;obtain ⟨z,cv,F',hd',rfl,hr,hl',hle⟩:=he
  replace hlen2:=hlen2 z
  replace hv:=hv z
  replace hpost:=hpost z
  replace hK:=hK z
  generalize xs z=xs at *;generalize v z=v at *
  -- where the blocks lie behind the call
  obtain ⟨all,hallE⟩:∃all,ns++os=all:=⟨_,rfl⟩;rw [hallE] at hinj
  let hdn:Nm→Hd:=fun s=>match inName all s with
   |.arg i=>hd' (qName ns.length i)
   |_=>hd s
  have hout:∀s,s∉all→hdn s=hd s:=fun s hs=>by
   simp only [hdn];rw [inName_not hs]
  have hdn_in:∀i s,all[i]?=some s→hdn s=hd' (qName ns.length i):=fun i s hs=>by
   obtain ⟨j,e,hj⟩:=inName_mem (List.mem_of_getElem? hs);have:=hinj i j s hs hj;subst this;simp only [hdn,e]
  have hns_at:∀s∈ns,∃i,ns[i]?=some s∧all[i]?=some s∧i<ns.length:=fun s hs=>by
   obtain ⟨i,hi'⟩:=List.getElem?_of_mem hs;have hl:=(List.getElem?_eq_some_iff.1 hi').1;exact ⟨i,hi',by rw [←hallE,List.getElem?_append_left hl];exact hi',hl⟩
  have hdn_or:∀s,s∉os→hdn s=hd s∨hdn s = .dead:=fun s hso=>by
   by_cases hs:s∈ns
   ·obtain ⟨i,h1,h2,h3⟩:=hns_at s hs;rw [hdn_in i s h2];have:=hle.kept i;simp only [inHd,h1] at this;simp only [qName,if_pos h3];exact this
   ·exact .inl (hout s (by rw [←hallE];simp [hs,hso]))
  have hown:∀s∈all,∀k,(hdn s).owns k→w.heap.size≤k∨∃s'∈ns,(hd s').owns k:=fun s hs k hk=>by
   obtain ⟨i,hi'⟩:=List.getElem?_of_mem hs;rw [hdn_in i s hi'] at hk;rcases hle.mine _ k hk with h1|⟨r,hr⟩
   ·exact .inl h1
   ·obtain ⟨j,s',_,hs',ho'⟩:=hinown r k hr;exact .inr ⟨s',List.mem_of_getElem? hs',ho'⟩
  have hsub:∀s∈ns,s∈all:=fun s hs=>by rw [←hallE];simp [hs]
  have hsame:∀k,k<w.heap.size→(∀s∈ns,¬(hd s).owns k)→w'.heap[k]?=w.heap[k]?:=fun k hk hno=>hle.old k hk fun ⟨r,hr⟩=>by
   obtain ⟨i,s,_,hs,ho⟩:=hinown r k hr;exact hno s (List.mem_of_getElem? hs) ho
  have hF:∀k,F k→w'.heap[k]?=w.heap[k]?:=fun k hk=>hsame k (hi.fin k hk).1 fun s _ ho=>(hi.mine s k ho).1 hk;have hFF:∀k,F k→F' k:=hle.more;have hblen:(post++xs.map some).length=all.length:=by rw [←hallE];simp [hlen,hlen2]
  have hkeys:=upsR_keys (backO ns os) all (post++xs.map some) hblen;have hback:∀m,(∃i,m = .arg i∧i<ns.length)∨(∃i,m = .out i∧i<os.length)→hdn (backO ns os m)=hd' m:=fun m hm=>by
   rcases hm with ⟨i,rfl,hi'⟩|⟨i,rfl,hi'⟩
   ·have h2:all[i]?=some (ns.getD i (.arg i)):=by
     rw [←hallE,List.getElem?_append_left hi',List.getD_eq_getElem?_getD,List.getElem?_eq_getElem hi'];rfl
    have:=hdn_in i _ h2;simp only [qName,if_pos hi'] at this;exact this
   ·have h2:all[ns.length+i]?=some (os.getD i (.out i)):=by
     rw [←hallE,List.getElem?_append_right (by omega),List.getD_eq_getElem?_getD,Nat.add_sub_cancel_left,List.getElem?_eq_getElem hi'];rfl
    have:=hdn_in (ns.length+i) _ h2;rw [qName,if_neg (by omega),Nat.add_sub_cancel_left] at this;exact this
  have hinv:Inv C (L'.upd (upsR (backO ns os) all (post++xs.map some))) hdn F' a w':=by
   refine { slots:=fun t=>?_,blocks:=fun r=>?_,sep:=fun r s k hne h1 h2=>?_,mine:=fun r k hk=>⟨?_,?_,?_⟩,fin:=fun k hk=>⟨hl'.fin k hk,?_⟩,more:=fun k hk=>hFF k (hi.more k hk),kept:=fun i=>?_,gl:=C.Gl.mono hi.gl hF hFF,os:=hle.os.trans hi.os,tape:=hle.tape.trans hi.tape,output:=hle.output.trans hi.output,size:=Nat.le_trans hi.size hle.size,old:=fun k hk hm=>?_,ntmps:=hi.ntmps,defers:=hi.defers }
   ·have:(L'.upd (upsR (backO ns os) all (post++xs.map some))).get t=L'.get t:=(by simp [LS.get,upd_blk]);rw [this];exact (hi.slots t).mono hF hFF fun r hr=>hdn_or r fun hro=>(hfresh r hro).2.1.1 t hr
   ·rw [upd_get];by_cases hr:r∈all
    ·cases hu:upsGet (upsR (backO ns os) all (post++xs.map some)) r with
     |none=>exact absurd hu (upsGet_some (by rw [hkeys];exact hr))
     |some b=>
      obtain ⟨i,c',e1,e2,rfl⟩:=upsR_get hu;have hh:=hl'.holds (qName ns.length i);rw [←hlen,lkH_handed,e2] at hh;rw [hlen] at hh;simp only [Option.getD_some] at hh ⊢;cases c' with
      |none=>exact (hdn_in i r e1).trans hh
      |some b=>
       simp only [Option.map_some];refine hh.ren (hdn_in i r e1) fun m hm=>.inl ?_;exact hback m (onlyIO_spec hpost m (blksMents_mem e2 m hm))
    ·rw [upsGet_none (by rw [hkeys];exact hr),Option.getD_none];exact (hi.blocks r).mono hF hFF (hout r hr) (fun k hk=>hsame k (hi.mine r k hk).2.1 fun s hs ho=>hi.sep r s k (fun e=>hr (e ▸ hsub s hs)) hk ho) fun c hc s hs=>hdn_or s fun hso=>(hfresh s hso).2.1.2 r c hc hs
   ·by_cases hra:r∈all<;>by_cases hsa:s∈all
    ·obtain ⟨i,hi'⟩:=List.getElem?_of_mem hra;obtain ⟨j,hj'⟩:=List.getElem?_of_mem hsa;rw [hdn_in i r hi'] at h1;rw [hdn_in j s hj'] at h2;refine hl'.sep _ _ k (fun e=>?_) h1 h2;have:=qName_inj e;subst this;rw [hi'] at hj';cases hj';exact hne rfl
    ·rw [hout s hsa] at h2;rcases hown r hra k h1 with h3|⟨s',hs',h3⟩
     ·have:=(hi.mine s k h2).2.1;omega
     ·exact hi.sep s' s k (fun e=>hsa (e ▸ hsub s' hs')) h3 h2
    ·rw [hout r hra] at h1;rcases hown s hsa k h2 with h3|⟨s',hs',h3⟩
     ·have:=(hi.mine r k h1).2.1;omega
     ·exact hi.sep s' r k (fun e=>hra (e ▸ hsub s' hs')) h3 h1
    ·rw [hout r hra] at h1;rw [hout s hsa] at h2;exact hi.sep r s k hne h1 h2
   ·by_cases hr:r∈all
    ·obtain ⟨i,hj⟩:=List.getElem?_of_mem hr;rw [hdn_in i r hj] at hk;exact (hl'.mine _ k hk).1
    ·rw [hout r hr] at hk;intro hk';rcases hle.fin k hk' with h1|h1|⟨s,hs⟩
     ·exact (hi.mine r k hk).1 h1
     ·have:=(hi.mine r k hk).2.1;omega
     ·obtain ⟨i,s',_,hs',ho⟩:=hinown s k hs;exact hi.sep r s' k (fun e=>hr (e ▸ hsub s' (List.mem_of_getElem? hs'))) hk ho
   ·by_cases hr:r∈all
    ·obtain ⟨i,hj⟩:=List.getElem?_of_mem hr;rw [hdn_in i r hj] at hk;exact (hl'.mine _ k hk).2
    ·rw [hout r hr] at hk;exact Nat.lt_of_lt_of_le (hi.mine r k hk).2.1 hle.size
   ·by_cases hr:r∈all
    ·rcases hown r hr k hk with h3|⟨s',hs',h3⟩
     ·exact .inl (Nat.le_trans hi.size h3)
     ·exact (hi.mine s' k h3).2.2
    ·rw [hout r hr] at hk;exact (hi.mine r k hk).2.2
   ·rcases hle.fin k hk with h1|h1|⟨s,hs⟩
    ·exact (hi.fin k h1).2
    ·exact .inr (.inl (Nat.le_trans hi.size h1))
    ·obtain ⟨i,s',_,hs',ho⟩:=hinown s k hs;exact .inr (hi.mine s' k ho).2.2
   ·rcases hdn_or (.arg i) (fun hso=>(hfresh _ hso).2.2 i rfl) with e|e
    ·rw [e];exact hi.kept i
    ·exact .inr e
   ·rw [←hi.old k hk hm];refine hsame k (Nat.lt_of_lt_of_le hk hi.size) fun s _ ho=>?_;rcases (hi.mine s k ho).2.2 with h1|h1
    ·omega
    ·exact hm h1
  rw [←hallE] at hinv;refine hK _ _ hdn F' (hinv.put o.dst (hr.ren fun r hr'=>.inl ?_) hdst);exact hback r (onlyIO_spec hv r hr')
theorem sem1_callO {C:Ctx}{o:Oper}{L:LS}{c:Call}{x:Operand}{g:FuncId}{first caps:List AV}{args:List AV}{ns os:List Nm}{pre post:List (Option Blk)}{xs:List Blk}{v:AV}(hdst:∀d,o.dst=some d→d<C.fn.ntmps)(ho:o.op = .call c)(hc:c.callee = .value x)
 (hx:L.ev x = .fn (.func g) first caps)
 (hargs:AV.ren.renL (inName ns) (first++evL L c.args.toList++caps)=args) (hpre:renBs (inName ns) (blksOf L ns)=pre) (hall:∀s∈ns,∃b,L.blk s=some b) (hnd:(ns++os).Nodup) (hlen:post.length=ns.length) (hlen2:xs.length=os.length)
 (hnoarg:∀s∈os,∀i,s≠.arg i)
 (hv:onlyIO ns.length os.length v.ments=true) (hpost:onlyIO ns.length os.length (blksMents (post++xs.map some))=true) (h:FunO C.P C.Gl g args pre v post xs) :
 Sem1 C o L.ev (ns.filterMap fun s=>(L.blk s).map fun b=>(s,b)) ⟨v.ren (backO ns os),upsR (backO ns os) (ns++os) (post++xs.map some)⟩:=by
 intro L' hd F a w hev hfp hnew hi K Q hK;refine step_callE (ι:=Unit) (xs:=fun _=>xs) (v:=fun _=>v) hdst ho hc hx hargs hpre hall hnd hlen (fun _=>hlen2) hnoarg (fun _=>hv) (fun _=>hpost) ⟨h.fn,fun w0 F0 hd0 cargs h1 h2 h3 h4=>(h.calls w0 F0 hd0 cargs h1 h2 h3 h4).mono fun e w he=>⟨(),he⟩⟩ hev (fun s hs=>?_) (fun s hs=>?_) hi K Q fun _=>hK
 ·obtain ⟨b,hb⟩:=hall s hs;rw [hb];exact hfp (s,b) (List.mem_filterMap.2 ⟨s,hs,by simp [hb]⟩)
 ·have hk:=upsR_keys (backO ns os) (ns++os) (post++xs.map some) (by simp [hlen,hlen2]);have hne:s∉ns:=fun h=>(List.nodup_append.1 hnd).2.2 s h s hs rfl;exact hnew s (List.mem_filter.2 ⟨by rw [hk];simp [hs],by
   simp only [Bool.not_eq_true',List.any_eq_false];intro q hq;obtain ⟨s',hs',hq'⟩:=List.mem_filterMap.1 hq;obtain ⟨b,hb⟩:=hall s' hs';rw [hb] at hq';cases hq';intro e;rw [Nm.eqb_iff] at e;exact hne (e ▸ hs')⟩)
def argB:Nm→Bool
 |.arg _=>true
 |_=>false
def freshAll (L:LS):List Nm→Bool
 |[]=>true
 |r::l=>newOk L r&&!argB r&&freshAll L l
theorem freshAll_spec {L:LS}{os:List Nm}(h:freshAll L os=true):∀s∈os,L.blk s=none∧L.Fresh s∧∀i,s≠.arg i:=by
 induction os with
 |nil=>intro s hs;cases hs
 |cons x l ih=>
  simp only [freshAll,Bool.and_eq_true] at h;intro s hs;rcases List.mem_cons.1 hs with rfl|hs
  ·obtain ⟨h1,h2⟩:=newOk_spec h.1.1;exact ⟨h1,h2,fun i e=>by subst e;have:=h.1.2;simp [argB] at this⟩
  ·exact ih h.2 s hs
def callSideO (n:Nat)(ops:Array Oper)(o:Oper)(L:LS)(g:FuncId)(args:List AV)(ns os:List Nm)(pre:List (Option Blk))(v:AV)(post:List (Option Blk))(xs:List Blk):Prop:=match o.op with
 |.call c=>match c.callee with
  |.value x=>match L.ev x with
   |.fn (.func g') first caps=>g'=g∧guardOf ops o L=some true∧dstOk n o=true∧AV.ren.renL (inName ns) (first++evL L c.args.toList++caps)=args∧renBs (inName ns) (blksOf L ns)=pre∧allSome (blksOf L ns)=true∧nodupB (ns++os)=true∧post.length=ns.length∧xs.length=os.length∧
    freshAll L os=true∧onlyIO ns.length os.length v.ments=true∧onlyIO ns.length os.length (blksMents (post++xs.map some))=true
   |_=>False
  |_=>False
 |_=>False
theorem Rd.callO {C:Ctx}{P:Program}{Gl:Granted}{T:TT}{n:Nat}{rs:List ResultVar}{v:AV}{post:List (Nm × Option Blk)}(h:Rd C P Gl T n rs v post){g:FuncId}{args:List AV}{pre' post':List (Option Blk)}{xs:List Blk}{r:AV}(ns os:List Nm)(hc:FunO P Gl g args pre' r post' xs){ops:Array Oper}{i:Nat}{o:Oper}{opl:List Oper}{done:List Trace}{todo:List Item}{L:LS}
 (hs:callSideO n ops o L g args ns os pre' r post' xs) (hnext:Go C (.reg ops false (i+1) opl [] todo (L.app o.dst ⟨r.ren (backO ns os),upsR (backO ns os) (ns++os) (post'++xs.map some)⟩))):Go C (.reg ops false i (o::opl) done todo L):=by
 unfold callSideO at hs;split at hs
 ·rename_i c ho;split at hs
  ·rename_i x hcal;split at hs
   ·rename_i g' first caps hx
    obtain ⟨rfl,hg,hd,hargs,hpre,hall,hnd,hlen,hlen2,hfr,hv,hpost⟩:=hs;have hp0:=h.prog;have hg0:=h.gl;subst hp0;subst hg0;have hfr:=freshAll_spec hfr;have hall:=allSome_spec hall;have e1:=fp_names hall;have e2:=upsR_keys (backO ns os) (ns++os) (post'++xs.map some) (by simp [hlen,hlen2]);have hsem:=sem1_callO (C:=C) (L:=L) (fun d hd'=>by rw [h.n];exact dstOk_spec hd d hd') ho hcal hx hargs hpre hall (nodupB_spec hnd) hlen hlen2 (fun s hs=>(hfr s hs).2.2) hv hpost hc;refine reg_stepN (· = L.app o.dst ⟨r.ren (backO ns os),upsR (backO ns os) (ns++os) (post'++xs.map some)⟩) ⟨hg,fun hd F a w hi K Q hK=>hsem L hd F a w (fun _ _=>rfl) (fun q hq=>?_) (fun s hs=>?_) hi K Q fun a' w' hd' F' hi'=>hK _ a' w' hd' F' rfl hi'⟩ fun L1 e=>by subst e;exact hnext
    ·obtain ⟨s,hs,hq⟩:=List.mem_filterMap.1 hq;obtain ⟨b,hb⟩:=hall s hs;rw [hb] at hq;cases hq;exact hb
    ·obtain ⟨h1,h2⟩:=List.mem_filter.1 hs;rw [e2] at h1;rcases List.mem_append.1 h1 with h1|h1
     ·exfalso;obtain ⟨b,hb⟩:=hall s h1;simp only [Bool.not_eq_true',List.any_eq_false] at h2;exact h2 (s,b) (List.mem_filterMap.2 ⟨s,h1,by simp [hb]⟩) ((Nm.eqb_iff _ _).2 rfl)
     ·exact ⟨(hfr s h1).1,(hfr s h1).2.1⟩
   ·exact hs.elim
  ·exact hs.elim
 ·exact hs.elim
def callSideD (n:Nat)(ops:Array Oper)(i:Nat)(o:Oper)(opl:List Oper)(done:List Trace)(L:LS)(d:Nat)(g:FuncId)(args:List AV)(ns:List Nm)(pre:List (Option Blk))(v:AV)(post:List (Option Blk))(xs:List Blk):Prop:=
 o.dst=some d∧callSideO n ops o L g args ns [.loc d] pre v post xs∧okPair ops true done o ⟨i,ns,ns++[.loc d]⟩ ((v.ren (backO ns [.loc d])).ments++upsMents (upsR (backO ns [.loc d]) (ns++[.loc d]) (post++xs.map some))) opl=true
theorem Rd.callD {C:Ctx}{P:Program}{Gl:Granted}{T:TT}{n:Nat}{rs:List ResultVar}{v:AV}{post:List (Nm × Option Blk)}(h:Rd C P Gl T n rs v post){g:FuncId}{args:List AV}{pre' post':List (Option Blk)}{xs:List Blk}{r:AV}(ns:List Nm)(d:Nat)(hc:FunO P Gl g args pre' r post' xs){ops:Array Oper}{i:Nat}{o:Oper}{opl:List Oper}{done:List Trace}{todo:List Item}{L:LS}
 (hs:callSideD n ops i o opl done L d g args ns pre' r post' xs) (hnext:Go C (.reg ops true (i+1) opl (nexts o true ⟨i,ns,ns++[.loc d]⟩ done) todo (L.app o.dst ⟨r.ren (backO ns [.loc d]),upsR (backO ns [.loc d]) (ns++[.loc d]) (post'++xs.map some)⟩))):Go C (.reg ops true i (o::opl) done todo L):=by
 obtain ⟨hdd,hs,hok⟩:=hs;unfold callSideO at hs;split at hs
 ·rename_i c ho;split at hs
  ·rename_i x hcal;split at hs
   ·rename_i g' first caps hx
    obtain ⟨rfl,hg,hd,hargs,hpre,hall,hnd,hlen,hlen2,hfr,hv,hpost⟩:=hs;have hp0:=h.prog;have hg0:=h.gl;subst hp0;subst hg0;have hfr:=freshAll_spec hfr;have hall:=allSome_spec hall;have e1:=fp_names hall;have e2:=upsR_keys (backO ns [.loc d]) (ns++[.loc d]) (post'++xs.map some) (by simp [hlen,hlen2]);have hsem:=sem1_callO (C:=C) (L:=L) (fun d hd'=>by rw [h.n];exact dstOk_spec hd d hd') ho hcal hx hargs hpre hall (nodupB_spec hnd) hlen hlen2 (fun s hs=>(hfr s hs).2.2) hv hpost hc;refine reg_step hg hsem (fun q hq=>?_) (fun s hs=>?_) ?_ ?_
    ·obtain ⟨s,hs,hq⟩:=List.mem_filterMap.1 hq;obtain ⟨b,hb⟩:=hall s hs;rw [hb] at hq;cases hq;exact hb
    ·obtain ⟨h1,h2⟩:=List.mem_filter.1 hs;rw [e2] at h1;rcases List.mem_append.1 h1 with h1|h1
     ·exfalso;obtain ⟨b,hb⟩:=hall s h1;simp only [Bool.not_eq_true',List.any_eq_false] at h2;exact h2 (s,b) (List.mem_filterMap.2 ⟨s,h1,by simp [hb]⟩) ((Nm.eqb_iff _ _).2 rfl)
     ·refine ⟨(hfr s h1).1,(hfr s h1).2.1,?_⟩;rw [List.mem_singleton] at h1;subst h1;simp [mayMake1,hdd,makes,ho,hcal]
    ·rw [e1,e2];exact hok
    ·rw [e1,e2];exact hnext
   ·exact hs.elim
  ·exact hs.elim
 ·exact hs.elim
theorem funE_of {P:Program}{Gl:Granted}{f:FuncId}{fn:Func}{c:Code}{args:List AV}{pre post:List (Option Blk)}{ι:Type}{xs:ι→List Blk}{v:ι→AV}{T:TT}{n:Nat}{rs:List ResultVar}(hf:P.funcs[f]?=some fn)(hname:(fn.name == "runtime.NumGoroutine")=false)(hb:fn.body=some c)(hn:fn.ntmps=n)(hrs:fn.results.toList=rs)
 (hT:TOk P T) (hm:P.follows .mixedOrders=true) (hl:args.length≤n) (h:∀C,(∀z,Rd C P Gl T n rs (v z) (keyed 0 post++outs 0 (xs z)))→Go C (.top [.code c] (LS.start args pre))):FunE P Gl f args pre v post xs:=
 ⟨⟨fn,hf,hname,by rw [hb];rfl⟩,own_callsE (R:=fun w0 F0 hd0 e w=>∃z,ownR w0 F0 hd0 (keyed 0 post++outs 0 (xs z)) (v z) e w) hf hb (by rw [hn];exact hl) fun w0 F0 hd0=>h _ fun z=>⟨rfl,rfl,hT,hn,hm,fun L x h1 h2 h3=>go_retE (fun e w h=>⟨z,h⟩) hT hf (by rw [hrs];exact h1) h2 h3⟩⟩
theorem Rd.stepE {C:Ctx}{P:Program}{Gl:Granted}{T:TT}{n:Nat}{rs:List ResultVar}{v:AV}{post:List (Nm × Option Blk)}(h:Rd C P Gl T n rs v post){g:FuncId}{ι:Type}{args:List AV}{pre' post':List (Option Blk)}{xs:ι→List Blk}{r:ι→AV}(ns os:List Nm)(hc:FunE P Gl g args pre' r post' xs){ops:Array Oper}{o:Oper}{L:LS}
 (z0:ι) (hs:∀z,callSideO n ops o L g args ns os pre' (r z) post' (xs z)):StepN C ops o L fun L1=>∃z,L1=L.app o.dst ⟨(r z).ren (backO ns os),upsR (backO ns os) (ns++os) (post'++(xs z).map some)⟩:=by
 have hs0:=hs z0;unfold callSideO at hs hs0;split at hs0
 ·rename_i c ho;simp only [ho] at hs;split at hs0
  ·rename_i x hcal;simp only [hcal] at hs;split at hs0
   ·rename_i g' first caps hx
    simp only [hx] at hs;obtain ⟨rfl,hg,hd,hargs,hpre,hall,hnd,hlen,_,hfr,_,_⟩:=hs0;have hp0:=h.prog;have hg0:=h.gl;subst hp0;subst hg0;have hfr:=freshAll_spec hfr;have hall:=allSome_spec hall;refine ⟨hg,fun hd' F a w hi K Q hK=>?_⟩;exact step_callE (fun d hd'=>by rw [h.n];exact dstOk_spec hd d hd') ho hcal hx hargs hpre hall (nodupB_spec hnd) hlen (fun z=>(hs z).2.2.2.2.2.2.2.2.1) (fun s hs=>(hfr s hs).2.2) (fun z=>(hs z).2.2.2.2.2.2.2.2.2.2.1) (fun z=>(hs z).2.2.2.2.2.2.2.2.2.2.2) hc (fun _ _=>rfl) (fun _ _=>rfl) (fun s hs=>⟨(hfr s hs).1,(hfr s hs).2.1⟩) hi K Q fun z a' w' hd' F' hi'=>hK _ a' w' hd' F' ⟨z,rfl⟩ hi'
   ·exact hs0.elim
  ·exact hs0.elim
 ·exact hs0.elim
end Go.Abs
namespace Go.Abs
open Go.RowKit
def somePtr:AV:=.opq fun _ _ v=>∃p,v = .pointer p
section
variable {C:Ctx} {P:Program} {Gl:Granted} {T:TT} {n:Nat} {rs:List ResultVar} {v:AV} {post:List (Nm × Option Blk)} {ops:Array Oper} {draw:Bool} {i:Nat} {o:Oper} {opl:List Oper} {done:List Trace} {todo:List Item} {L:LS}
theorem Rd.sliceData (h:Rd C P Gl T n rs v post){e:Nat}{x:Operand}{c:Call}{r:Nm}{l:List UInt8}(hl:l≠[])(h1:o.op = .call c)(hc:c.callee = .builtin .unsafeSliceData)(hx:c.args = #[x])
 (hst:guardOf ops o L=some true∧dstOk n o=true∧L.ev x = .own r∧L.blk r=some (.row e 1 (byteRow l))∧okPair ops draw done o ⟨i,[r],[]⟩ [r] opl=true)
 (hnext:Go C (.reg ops draw (i+1) opl (nexts o draw ⟨i,[r],[]⟩ done) todo (L.app o.dst ⟨.ept r 1 0 0,[]⟩))):Go C (.reg ops draw i (o::opl) done todo L):=by
 obtain ⟨h2,h3,h4,h5,h6⟩:=hst;refine reg_step (fp:=[(r,.row e 1 (byteRow l))]) h2 (sem1_read (fun d hd=>by rw [h.n];exact dstOk_spec h3 d hd) fun L' hd F a w hev hfp hi=>?_) (by simpa using h5) (fun q hq=>by simp [news] at hq) (by simpa [upsMents,AV.ments] using h6) hnext;have hblk:=hi.blocks r;rw [hfp (r,.row e 1 (byteRow l)) (by simp)] at hblk;obtain ⟨v0,cells,q1,q2,q3,q4,q5⟩:=hblk;have hv:=hev x (by simp [h1,Op.operands,Call.operands,hx,hc]);rw [h4] at hv;have e0:a.eval x=v0:=by cases hv with|own _ _ _ hp=>exact hp v0 q1
 rcases q2.2 with ⟨_,h0⟩|⟨g,cap,cur,rfl,_,hg,hnc,_⟩
 ·exact absurd (List.eq_nil_of_length_eq_zero (by simpa using h0)) hl
 ·have hn:0<(byteRow l).length:=by rw [byteRow_len];exact List.length_pos_iff.2 hl
  refine ⟨.pointer (some ⟨g,0,none⟩),?_,.ept r 1 0 0 _ rfl fun g' n' c' hh=>?_⟩
  ·have:=Lib.run_unsafeSliceData_row (P:=C.P) w c.argTypes o.type ⟨g,0,none⟩ (byteRow l).length cap (by omega);simp [execOp,h1,resolve,hc,hx,invoke,builtin,e0];rw [byteRow_len] at this;rw [this];rfl
  ·rw [q1] at hh;simp at hh;rw [hh.1]
theorem Rd.sliceData0 (h:Rd C P Gl T n rs v post){e e':Nat}{x:Operand}{c:Call}{r:Nm}(hp:P.underlying o.type=some (.pointer e'))(h1:o.op = .call c)(hc:c.callee = .builtin .unsafeSliceData)(hx:c.args = #[x])
 (hst:guardOf ops o L=some true∧dstOk n o=true∧L.ev x = .own r∧L.blk r=some (.row e 1 [])∧okPair ops draw done o ⟨i,[r],[]⟩ [] opl=true)
 (hnext:Go C (.reg ops draw (i+1) opl (nexts o draw ⟨i,[r],[]⟩ done) todo (L.app o.dst ⟨somePtr,[]⟩))):Go C (.reg ops draw i (o::opl) done todo L):=by
 obtain ⟨h2,h3,h4,h5,h6⟩:=hst;have hpr:=h.prog;subst hpr;refine reg_step (fp:=[(r,.row e 1 [])]) (A:=⟨somePtr,[]⟩) h2 (sem1_of (fun d hd=>by rw [h.n];exact dstOk_spec h3 d hd) fun L' hd F a w hev hfp _ hi=>?_) (by simpa using h5) (fun q hq=>by simp [news] at hq) (by simpa [upsMents,AV.ments,somePtr] using h6) hnext;have hblk:=hi.blocks r;rw [hfp (r,.row e 1 []) (by simp)] at hblk;obtain ⟨v0,cells,q1,q2,q3,q4,q5⟩:=hblk;have hv:=hev x (by simp [h1,Op.operands,Call.operands,hx,hc]);rw [h4] at hv;have e0:a.eval x=v0:=by cases hv with|own _ _ _ hp=>exact hp v0 q1
 have hopq:∀(w:World) (p:Option Addr),Rep w F hd somePtr (.pointer p):=fun w p=>.opq _ _ rfl fun _ _ _ _=>⟨p,rfl⟩;rcases q2.2 with ⟨rfl,_⟩|⟨g,cap,cur,rfl,_,hg,hnc,_⟩
 ·refine ⟨.pointer none,w,hd,F,.inl ?_,hi,hopq w none⟩;have:=Lib.run_unsafeSliceData_nil (P:=C.P) w c.argTypes o.type 0 0;simp [execOp,h1,resolve,hc,hx,invoke,builtin,e0,this]
 ·by_cases hcap:cap=0
  ·subst hcap;refine ⟨.pointer (some ⟨w.heap.size,0,none⟩),w.alloc (.view ⟨g,0,none⟩ e'),hd,F,.inl ?_,?_,hopq _ _⟩
   ·have:=Lib.run_unsafeSliceData_zero (P:=C.P) w c.argTypes o.type e' hp ⟨g,0,none⟩ 0 (e,cur.size) (by simp [World.shape?,hg]);simp [execOp,h1,resolve,hc,hx,invoke,builtin,e0,this]
   ·exact inv_more hi rfl rfl rfl (by simp) (fun k hk=>heap_alloc_old w _ hk) (fun _ h=>h) fun _ h=>.inl h
  ·refine ⟨.pointer (some ⟨g,0,none⟩),w,hd,F,.inl ?_,hi,hopq w _⟩;have:=Lib.run_unsafeSliceData_row (P:=C.P) w c.argTypes o.type ⟨g,0,none⟩ 0 cap hcap;simp [execOp,h1,resolve,hc,hx,invoke,builtin,e0,this]
theorem Rd.unsafeStr0 (h:Rd C P Gl T n rs v post){x y:Operand}{c:Call}{pt it:TypeId}(h1:o.op = .call c)(hc:c.callee = .builtin .unsafeString)(hx:c.args = #[x,y])(ht:c.argTypes = #[pt,it])
 (hst:guardOf ops o L=some true∧dstOk n o=true∧L.ev x=somePtr∧L.ev y = .pv (.val (.int .i64 0))∧okPair ops draw done o ⟨i,[],[]⟩ [] opl=true)
 (hnext:Go C (.reg ops draw (i+1) opl (nexts o draw ⟨i,[],[]⟩ done) todo (L.app o.dst ⟨.pv (.val (.string ⟨#[]⟩)),[]⟩))):Go C (.reg ops draw i (o::opl) done todo L):=by
 obtain ⟨h2,h3,h4,h5,h6⟩:=hst;refine reg_step (fp:=[]) h2 (sem1_read (fun d hd=>by rw [h.n];exact dstOk_spec h3 d hd) fun L' hd F a w hev hfp hi=>⟨_,?_,.pv _ _ (.val _ rfl)⟩) (by simp) (fun q hq=>by simp [news] at hq) (by simpa [upsMents,AV.ments] using h6) hnext;have hv:=hev x (by simp [h1,Op.operands,Call.operands,hx,hc]);have hy:=hev y (by simp [h1,Op.operands,Call.operands,hx,hc]);rw [h4] at hv;rw [h5] at hy;have e1:=bool_of hy;have:∃p,a.eval x = .pointer p:=by
  cases hv with
  |opq _ _ _ hq=>exact hq w F (fun _ _=>rfl) fun _ h=>h
 obtain ⟨p,e0⟩:=this;have:=Lib.run_unsafeString_none (P:=C.P) w pt it o.type p;simp [execOp,h1,resolve,hc,hx,ht,invoke,builtin,e0,e1,this];rfl
theorem freeze_at {w:World}{g n k:Nat}(h:k≠g):(w.freeze ⟨g,0,none⟩ n).heap[k]?=w.heap[k]?:=by
 unfold World.freeze;split
 ·rfl
 ·simp only [Array.getElem?_modify];rw [if_neg (fun e=>h e.symm)]
theorem freeze_rest (w:World)(a:Addr)(n:Nat):(w.freeze a n).os=w.os∧(w.freeze a n).tape=w.tape∧(w.freeze a n).output=w.output∧(w.freeze a n).heap.size=w.heap.size:=by
 unfold World.freeze;split
 ·exact ⟨rfl,rfl,rfl,rfl⟩
 ·exact ⟨rfl,rfl,rfl,by simp⟩
theorem Rd.unsafeStr (h:Rd C P Gl T n rs v post){x y:Operand}{c:Call}{pt it:TypeId}{e:Nat}{r:Nm}{l:List UInt8}(hl:l≠[])(hp:P.underlying pt=some (.pointer e))(hco:P.cellsOf e=1)(h1:o.op = .call c)(hc:c.callee = .builtin .unsafeString)(hx:c.args = #[x,y])(ht:c.argTypes = #[pt,it])
 (hst:guardOf ops o L=some true∧dstOk n o=true∧L.ev x = .ept r 1 0 0∧L.ev y = .pv (.val (.int .i64 l.length))∧L.blk r=some (.row e 1 (byteRow l))∧okPair ops draw done o ⟨i,[r],[r]⟩ [] opl=true)
 (hnext:Go C (.reg ops draw (i+1) opl (nexts o draw ⟨i,[r],[r]⟩ done) todo (L.app o.dst ⟨.pv (.val (.string ⟨l.toArray⟩)),[(r,none)]⟩))):Go C (.reg ops draw i (o::opl) done todo L):=by
 obtain ⟨h2,h3,h4,h5,h6,h7⟩:=hst;have hpr:=h.prog;subst hpr;have hrr:r.eqb r=true:=(Nm.eqb_iff _ _).2 rfl;refine reg_step (fp:=[(r,.row e 1 (byteRow l))]) (A:=⟨.pv (.val (.string ⟨l.toArray⟩)),[(r,none)]⟩) h2 (sem1_of (fun d hd=>by rw [h.n];exact dstOk_spec h3 d hd) fun L' hd F a w hev hfp _ hi=>?_) (by simpa using h6) (fun q hq=>?_) (by simpa [upsMents,AV.ments] using h7) hnext
 ·have hblk:=hi.blocks r;rw [hfp (r,.row e 1 (byteRow l)) (by simp)] at hblk;obtain ⟨v0,cells,q1,q2,q3,q4,q5⟩:=hblk;have hv:=hev x (by simp [h1,Op.operands,Call.operands,hx,hc]);have hy:=hev y (by simp [h1,Op.operands,Call.operands,hx,hc]);rw [h4] at hv;rw [h5] at hy;have e1:=bool_of hy;have hcl:cells.length=l.length:=by have:=q2.1;simpa using this
  have hcells:=fun g hg=>q2.cells (g:=g) hg;rcases q2.2 with ⟨_,h0⟩|⟨g,cap,cur,rfl,_,hg,hnc,hcm,hcs,htk⟩
  ·exact absurd (List.eq_nil_of_length_eq_zero (by simpa using h0)) hl
  ·have e0:a.eval x = .pointer (some ⟨g,0,none⟩):=by
    cases hv with
    |ept _ _ _ _ _ _ hh=>simpa using hh g _ _ q1
   have hcell:∀(j:Nat) (b:UInt8),l[j]?=some b→w.cell? ((⟨g,0,none⟩:Addr).add j)=some (.int .u8 b.toNat):=fun j b hj=>by
    have hjl:j<cells.length:=(by rw [hcl];exact (List.getElem?_eq_some_iff.1 hj).1);have h8:=q4 j 0 [.val (.int .u8 b.toNat)] (.val (.int .u8 b.toNat)) cells[j] (by simp [byteRow,hj]) rfl (by simp [hjl]);have h9:cells[j] = .int .u8 b.toNat:=by
     generalize cells[j]=z at h8;cases h8;rfl
    rw [←h9];exact hcells g rfl j _ (List.getElem?_eq_getElem hjl)
   have hsz:l.length≤cur.size:=by
    rw [byteRow_len] at hnc;have:=hcs;simp at this;omega
   have hrun:=Lib.run_unsafeString_row (P:=C.P) w pt it o.type e hp hco g cur.size (by simp [World.shape?,hg]) l hl hsz (by rw [byteRow_len] at hnc;simp only [maxLen] at hcm;omega) hcell;obtain ⟨f1,f2,f3,f4⟩:=freeze_rest w ⟨g,0,none⟩ l.length;refine ⟨.string ⟨l.toArray⟩,w.freeze ⟨g,0,none⟩ l.length,fun s=>if s=r then .dead else hd s,F,.inl ?_,inv_upd hi [(r,none)] _ (fun k=>k=g) f1 f2 f3 (Nat.le_of_eq f4.symm) (fun k hk hn=>freeze_at hn) (fun k hk=>⟨r,by rw [q1,hk];exact rfl⟩) (fun s hs=>?_) (fun s b hs=>?_) (fun s hs=>?_) (fun r' s k hne h8 h9=>?_) (fun r' k hk=>?_),.pv _ _ (.val _ rfl)⟩
   ·simp [execOp,h1,resolve,hc,hx,ht,invoke,builtin,e0,e1,hrun]
   ·have hs:s≠r:=fun e=>hs (by subst e;exact List.mem_singleton.2 rfl);refine ⟨by simp [hs],fun k hk hn=>?_⟩;subst hn;exact hi.sep s r k hs hk (by rw [q1];exact rfl)
   ·by_cases hrs:r=s
    ·subst hrs;simp [upsGet] at hs;subst hs;simp [HoldB]
    ·simp [upsGet,hrs] at hs
   ·have hs:s=r:=List.mem_singleton.1 hs;subst hs;right;left;simp
   ·by_cases a1:r'=r
    ·rw [if_pos a1] at h8;exact h8.elim
    ·by_cases a2:s=r
     ·rw [if_pos a2] at h9;exact h9.elim
     ·rw [if_neg a1] at h8;rw [if_neg a2] at h9;exact hi.sep r' s k hne h8 h9
   ·by_cases a1:r'=r
    ·rw [if_pos a1] at hk;exact hk.elim
    ·rw [if_neg a1] at hk;exact ⟨.inl ⟨r',hk⟩,by rw [f4];exact (hi.mine r' k hk).2.1⟩
 ·simp [news,hrr] at hq
end
end Go.Abs
namespace Go.Abs
open Go.RowKit
section
variable {C:Ctx} {P:Program} {Gl:Granted} {T:TT} {n:Nat} {rs:List ResultVar} {v:AV} {post:List (Nm × Option Blk)} {ops:Array Oper} {draw:Bool} {i:Nat} {o:Oper} {opl:List Oper} {done:List Trace} {todo:List Item} {L:LS}
theorem Rd.max (h:Rd C P Gl T n rs v post){x y:Operand}{c:Call}{k:IntKind}{a b:Int}(h1:o.op = .call c)(hc:c.callee = .builtin .max)(hx:c.args = #[x,y])
 (hst:guardOf ops o L=some true∧dstOk n o=true∧L.ev x = .pv (.val (.int k a))∧L.ev y = .pv (.val (.int k b))∧okPair ops draw done o ⟨i,[],[]⟩ [] opl=true)
 (hnext:Go C (.reg ops draw (i+1) opl (nexts o draw ⟨i,[],[]⟩ done) todo (L.app o.dst ⟨.pv (.val (.int k (if b > a then b else a))),[]⟩))):Go C (.reg ops draw i (o::opl) done todo L):=by
 obtain ⟨h2,h3,h4,h5,h6⟩:=hst;refine reg_step (fp:=[]) h2 (sem1_read (fun d hd=>by rw [h.n];exact dstOk_spec h3 d hd) fun L' hd F a' w hev hfp hi=>⟨_,?_,.pv _ _ (.val _ rfl)⟩) (by simp) (fun q hq=>by simp [news] at hq) (by simpa [upsMents,AV.ments] using h6) hnext;have hv:=hev x (by simp [h1,Op.operands,Call.operands,hx,hc]);have hy:=hev y (by simp [h1,Op.operands,Call.operands,hx,hc]);rw [h4] at hv;rw [h5] at hy;have e0:=bool_of hv;have e1:=bool_of hy;have:=run_max_int2 (P:=C.P) (w:=w) c.argTypes o.type k k a b;simp [execOp,h1,resolve,hc,hx,invoke,builtin,e0,e1,this]
end
end Go.Abs
namespace Go.Abs
open Go.RowKit Go.ChangeMaps Go.MapKept
open Go.Maps (Keyed)
abbrev Ents:=List (Value × AV)
theorem Rep.bare {w:World}{F:Nat→Prop}{hd hd':Nm→Hd}{x:AV}{v:Value}(h:Rep w F hd x v)(hx:x.ments = []):Rep w F hd' x v:=
 h.mono (fun _ _=>rfl) (fun _ h=>h) fun r hr=>by rw [hx] at hr;cases hr
theorem nodup_idx {α:Type}{l:List α}(h:l.Nodup){i j:Nat}{x:α}(hi:l[i]?=some x)(hj:l[j]?=some x):i=j:=by
 obtain ⟨h1,e1⟩:=List.getElem?_eq_some_iff.1 hi;obtain ⟨h2,e2⟩:=List.getElem?_eq_some_iff.1 hj;rcases Nat.lt_trichotomy i j with h3|h3|h3
 ·exact absurd (e1.trans e2.symm) (List.pairwise_iff_getElem.1 h i j h1 h2 h3)
 ·exact h3
 ·exact absurd (e2.trans e1.symm) (List.pairwise_iff_getElem.1 h j i h2 h1 h3)
theorem rep_pair {w:World}{F:Nat→Prop}{hd:Nm→Hd}{x y:AV}{u v:Value}(h1:Rep w F hd x u)(h2:Rep w F hd y v):Rep w F hd (.tup [x,y]) (.tuple #[u,v]):=
 .tup _ [u,v] rfl fun j c z h3 h4=>by
  rcases j with _|_|j
  ·simp at h3 h4;subst h3 h4;exact h1
  ·simp at h3 h4;subst h3 h4;exact h2
  ·simp at h3
def mapG (P:Program)(k:Nat)(m:Ents)(w:World)(F:Nat→Prop)(o:Obj):Prop:=
 ∃es clock,o = .map es clock∧Stamped es clock∧(∀p∈m,(∃kl,keyOf P k p.1=some kl)∧p.2.ments = [])∧es.size=m.length∧
  ∀(j:Nat) (x:MapEntry) (p:Value × AV),es[j]?=some x→m[j]?=some p→x.key=p.1∧Rep w F (fun _=>.dead) p.2 x.val
theorem mapG_mono {P:Program}{k:Nat}{m:Ents}{w w':World}{F F':Nat→Prop}{o:Obj}(h:mapG P k m w F o)(h1:∀k,F k→w'.heap[k]?=w.heap[k]?)(h2:∀k,F k→F' k):mapG P k m w' F' o:=by
 obtain ⟨es,clock,e,s,g,l,r⟩:=h;exact ⟨es,clock,e,s,g,l,fun j x p a b=>⟨(r j x p a b).1,(r j x p a b).2.mono h1 h2 fun q hq=>.inl rfl⟩⟩
theorem mapG_made {P:Program}{k:Nat}{w:World}{F:Nat→Prop}:mapG P k [] w F (.map #[] 0):=
 ⟨#[],0,rfl,stamped_empty 0,(by simp),rfl,(by simp)⟩
theorem grown_set {w:World}{r:Nat}{o o':Obj}(hb:w.heap[r]?=some o):w.grownBy (setBlock w r o') (some r)∧(setBlock w r o').heap.size=w.heap.size∧(setBlock w r o').heap[r]?=some o':=
 ⟨⟨rfl,rfl,rfl,by simp [setBlock],fun k hk hne=>(heap_set hb).2 k fun e=>hne (by rw [e])⟩,by simp [setBlock],(heap_set hb).1⟩
section
variable {C:Ctx} {o:Oper} {ev:Operand→AV}
theorem sem1_mkG {d:Nat}{t:TypeId}(hd:o.dst=some d)(hn:d<C.fn.ntmps)(ho:o.op = .makeMap t none)(k:Nat) :
 Sem1 C o ev [] ⟨.hmap (.loc d),[(.loc d,some (.gen (mapG C.P k [])))]⟩:=by
 refine sem1_of (fun d' h=>by rw [hd] at h;cases h;exact hn) fun L hd' F a w hev hfp hnew hi=>?_;obtain ⟨m1,m2⟩:=hnew (.loc d) (by simp [news]);obtain ⟨hd2,h1,h2⟩:=inv_obj hi (r:=.loc d) (by simp) m1 m2 (.map #[] 0) (.gen (mapG C.P k [])) (fun hd2 h=>⟨_,_,h,heap_alloc_new w _,fun _ _ _ _=>mapG_made⟩);refine ⟨.map (some w.heap.size),_,hd2,F,.inl ?_,h1,.hmap _ _ rfl fun k hk=>by rw [h2] at hk;cases hk;rfl⟩;simp [execOp,ho,run_makeMap,Result.andThen]
def putG (m:Ents)(key:Value)(v:AV)(m':Ents):Prop:=
 ((∀p∈m,p.1≠key)∧m'=m++[(key,v)])∨∃l1 l2 old,m=l1++(key,old)::l2∧m'=l1++(key,v)::l2
theorem run_putG {P:Program}{w:World}{t k e j:Nat}{es:Array MapEntry}{clock:Nat}{key val:Value}{kl:Lit}(K:Keyed P k)(ht:P.underlying t=some (.map k e))(hkey:keyOf P k key=some kl)
 (hb:w.heap[j]?=some (.map es clock)) (hks:∀x∈es.toList,∃l,keyOf P k x.key=some l) :
 ((∀x∈es.toList,x.key≠key)∧(Instr.mapUpdate t (.map (some j)) key val).run P w = .ok () (setBlock w j (.map (es.push { key,val,born:=clock }) (clock+1))))∨
 ∃i x,es[i]?=some x∧x.key=key∧(Instr.mapUpdate t (.map (some j)) key val).run P w = .ok () (setBlock w j (.map (es.modify i fun e=>{ e with key,val:=val }) clock)):=by
 have hset:∀o',(setObj j o').run P w = .ok () (setBlock w j o'):=fun o'=>by simp [setObj,Sem.run,hb,setBlock]
 rcases K.find w hkey es.toList hks with ⟨h1,h2⟩|⟨i,x,h1,h2,h3⟩
 ·exact .inl ⟨h2,by simp [Instr.mapUpdate,run_underlying ht,getObj,Sem.run,hb,Result.andThen,K.check w false hkey,h1,hset]⟩
 ·refine .inr ⟨i,x,by simpa using h2,h3,?_⟩;have hx:es[i]?=some x:=by simpa using h2
  simp [Instr.mapUpdate,run_underlying ht,getObj,Sem.run,hb,Result.andThen,K.check w false hkey,h1,hset,hx,h3,K.stays w hkey]
theorem sem1_putG {r:Nm}{t k e:Nat}{m x v:Operand}(hdst:∀d,o.dst=some d→d<C.fn.ntmps)(ho:o.op = .mapUpdate t m x v∨o.op = .insert t m x v)(ht:C.P.underlying t=some (.map k e))(K:Keyed C.P k){key:Value}{kl:Lit}{av:AV}{l l':Ents}
 (hm:ev m = .hmap r) (hx:∀(w:World) (F:Nat→Prop) (hd:Nm→Hd) (u:Value),Rep w F hd (ev x) u→u=key) (hv:ev v=av) (hav:av.ments = []) (hkey:keyOf C.P k key=some kl) (hp:putG l key av l') :
 Sem1 C o ev [(r,.gen (mapG C.P k l))] ⟨.any,[(r,some (.gen (mapG C.P k l')))]⟩:=by
 refine sem1_of hdst fun L hd F a w hev hfp hnew hi=>?_;have e1:=hev m (by rcases ho with ho|ho<;>simp [ho,Op.operands]);have e2:=hev x (by rcases ho with ho|ho<;>simp [ho,Op.operands]);have e3:=hev v (by rcases ho with ho|ho<;>simp [ho,Op.operands]);rw [hm] at e1;rw [hv] at e3;have e2:=hx _ _ _ _ e2;have hb:=hi.blocks r;rw [hfp (r,.gen (mapG C.P k l)) (by simp)] at hb;obtain ⟨j,ob,q1,q2,q3⟩:=hb;have e1:a.eval m = .map (some j):=by cases e1 with|hmap _ _ _ h=>exact h j q1
 obtain ⟨es,clock,rfl,hst,hg,hsz,hr⟩:=q3 w F (fun _ _=>rfl) (fun _ h=>h);have hjF:¬F j:=(hi.mine r j (by rw [q1];exact rfl)).1;have hlen:∀(i:Nat) (x:MapEntry),es[i]?=some x→∃p,l[i]?=some p:=fun i x hx=>by
  have:=(Array.getElem?_eq_some_iff.1 hx).1;exact ⟨l[i]'(by omega),by simp⟩
 have hks:∀x∈es.toList,∃l,keyOf C.P k x.key=some l:=fun x hx=>by
  obtain ⟨i,hi'⟩:=List.getElem?_of_mem hx;obtain ⟨p,hp'⟩:=hlen i x (by simpa using hi');rw [(hr i x p (by simpa using hi') hp').1];exact (hg p (List.mem_of_getElem? hp')).1
 have done:∀(es':Array MapEntry) (clock':Nat),(Instr.mapUpdate t (.map (some j)) key (a.eval v)).run C.P w = .ok () (setBlock w j (.map es' clock'))→mapG C.P k l' w F (.map es' clock')→
  ∃v' w' hd' F',((execOp a.eval o).run C.P w = .ok (.value v') w'∨((execOp a.eval o).run C.P w = .ok .skip w'∧v'=undef))∧Inv C (L.upd [(r,some (.gen (mapG C.P k l')))]) hd' F' a w'∧Rep w' F' hd' .any v':=by
  intro es' clock' hrun hG;obtain ⟨g1,g2,g3⟩:=grown_set (o':=.map es' clock') q2;refine ⟨_,_,hd,F,.inr ⟨?_,rfl⟩,inv_turn hi q1 (.gen (mapG C.P k l')) g1 g2 ⟨j,_,q1,g3,fun w2 F2 a1 a2=>mapG_mono hG (fun i hi'=>?_) a2⟩,.any _⟩
  ·rcases ho with ho|ho<;>simp [execOp,ho,e1,e2,hrun,Result.andThen]
  ·rw [a1 i hi'];exact (heap_set q2).2 i fun e=>hjF (e ▸ hi')
 have hval:Rep w F (fun _=>.dead) av (a.eval v):=e3.bare hav;rcases run_putG (P:=C.P) (val:=a.eval v) K ht hkey q2 hks with ⟨hno,hrun⟩|⟨i,x,hix,hxk,hrun⟩
 ·refine done _ _ hrun ?_;rcases hp with ⟨hn,rfl⟩|⟨l1,l2,old,rfl,rfl⟩
  ·refine ⟨_,_,rfl,stamped_push hst hno,fun p hp=>?_,by simp [hsz],fun i x p hx hp=>?_⟩
   ·rcases List.mem_append.1 hp with hp|hp
    ·exact hg p hp
    ·simp at hp;subst hp;exact ⟨⟨_,hkey⟩,hav⟩
   ·rw [Array.getElem?_push] at hx;by_cases hi':i=es.size
    ·rw [if_pos hi'] at hx;rw [List.getElem?_append_right (by omega),show i-l.length=0 by omega] at hp;simp at hx hp;subst hx hp;exact ⟨rfl,hval⟩
    ·rw [if_neg hi'] at hx;have:=(Array.getElem?_eq_some_iff.1 hx).1;rw [List.getElem?_append_left (by omega)] at hp;exact hr i x p hx hp
  ·exfalso;have hj:l1.length<es.size:=(by rw [hsz];simp);have:=(hr l1.length es[l1.length] (key,old) (by simp) (by simp)).1;exact hno _ (by simp) this
 ·refine done _ _ hrun ?_;have hil:=(Array.getElem?_eq_some_iff.1 hix).1;rcases hp with ⟨hn,rfl⟩|⟨l1,l2,old,rfl,rfl⟩
  ·exfalso;obtain ⟨p,hp'⟩:=hlen i x hix;exact hn p (List.mem_of_getElem? hp') ((hr i x p hix hp').1.symm.trans hxk)
  ·have hj:l1.length<es.size:=(by rw [hsz];simp);have hk1:=(hr l1.length es[l1.length] (key,old) (by simp) (by simp)).1;have hii:i=l1.length:=by
    have hnd:=hst.2.2;have h1:(es.toList.map (·.key))[i]?=some key:=(by rw [List.getElem?_map,Array.getElem?_toList,hix];simp [hxk]);have h2:(es.toList.map (·.key))[l1.length]?=some key:=(by rw [List.getElem?_map,Array.getElem?_toList,Array.getElem?_eq_getElem hj];simp [hk1]);exact nodup_idx hnd h1 h2
   subst hii;refine ⟨_,_,rfl,stamped_modify hst _ _ (fun _ _=>rfl) (fun x hx hx'=>?_),fun p hp=>?_,by simp [hsz],fun i x p hx hp=>?_⟩
   ·rw [hix] at hx';cases hx';exact hxk.symm
   ·rcases List.mem_append.1 hp with hp|hp
    ·exact hg p (by simp [hp])
    ·rcases List.mem_cons.1 hp with rfl|hp
     ·exact ⟨⟨_,hkey⟩,hav⟩
     ·exact hg p (by simp [hp])
   ·rw [Array.getElem?_modify] at hx;by_cases hi':l1.length=i
    ·subst hi';rw [if_pos rfl,hix] at hx;simp at hx hp;subst hx hp;exact ⟨rfl,hval⟩
    ·rw [if_neg hi'] at hx;refine hr i x p hx ?_;by_cases hlt:i<l1.length
     ·rw [List.getElem?_append_left hlt] at hp ⊢;exact hp
     ·rw [List.getElem?_append_right (by omega)] at hp ⊢;obtain ⟨n,hn⟩:∃n,i-l1.length=n+1:=⟨i-l1.length-1,by omega⟩;rw [hn] at hp ⊢;simpa using hp
def mapIn (L:Operand→AV)(fp:List (Nm × Blk))(P:Program)(k:Nat)(l:Ents)(m:Operand):Prop:=
 (∃r,L m = .hmap r∧fp = [(r,.gen (mapG P k l))])∨(L m = .pv (.opq (mapAt (mapG P k l)))∧fp = [])
theorem mapIn_at {hd:Nm→Hd}{F:Nat→Prop}{a:Act}{w:World}{L:LS}{fp:List (Nm × Blk)}{k:Nat}{l:Ents}{m:Operand}(hi:Inv C L hd F a w)(h:mapIn ev fp C.P k l m)(hfp:∀p∈fp,L.blk p.1=some p.2)(e:Rep w F hd (ev m) (a.eval m)) :
 ∃j es clock,a.eval m = .map (some j)∧w.heap[j]?=some (.map es clock)∧mapG C.P k l w F (.map es clock):=by
 rcases h with ⟨r,h1,h2⟩|⟨h1,h2⟩
 ·rw [h1] at e;subst h2;have hb:=hi.blocks r;rw [hfp (r,.gen (mapG C.P k l)) (by simp)] at hb;obtain ⟨j,ob,q1,q2,q3⟩:=hb;have q3:=q3 w F (fun _ _=>rfl) (fun _ h=>h);obtain ⟨es,clock,rfl,_⟩:=id q3;exact ⟨j,es,clock,by cases e with|hmap _ _ _ h=>exact h j q1,q2,q3⟩
 ·rw [h1] at e;generalize a.eval m=z at e;cases e with
  |pv _ _ hp=>cases hp with
   |opq _ _ _ hq=>
    obtain ⟨j,ob,rfl,_,h4,h5⟩:=hq w F (fun _ _=>rfl) (fun _ h=>h);obtain ⟨es,clock,rfl,_⟩:=id h5;exact ⟨j,es,clock,rfl,h4,h5⟩
theorem mapG_keys {P:Program}{k:Nat}{l:Ents}{w:World}{F:Nat→Prop}{es:Array MapEntry}{clock:Nat}(h:mapG P k l w F (.map es clock)):∀x∈es.toList,∃l,keyOf P k x.key=some l:=by
 obtain ⟨es',clock',e,hst,hg,hsz,hr⟩:=h;cases e;intro x hx;obtain ⟨i,hi'⟩:=List.getElem?_of_mem hx;have hlt:=(List.getElem?_eq_some_iff.1 hi').1;have hp':l[i]?=some (l[i]'(by simp at hlt;omega)):=by simp
 rw [(hr i x _ (by simpa using hi') hp').1];exact (hg _ (List.mem_of_getElem? hp')).1
theorem mapG_find {P:Program}{k:Nat}(K:Keyed P k){l:Ents}{w:World}{F:Nat→Prop}{es:Array MapEntry}{clock:Nat}(h:mapG P k l w F (.map es clock)){key:Value}{kl:Lit}(hkey:keyOf P k key=some kl) :
 ((∀p∈l,p.1≠key)→(Instr.findKey k key es.toList).run P w = .ok none w)∧(∀av,(key,av)∈l→∃i v,(Instr.findKey k key es.toList).run P w = .ok (some (i,v)) w∧Rep w F (fun _=>.dead) av v∧av.ments = []):=by
 have hks:=mapG_keys h;obtain ⟨es',clock',e,hst,hg,hsz,hr⟩:=h;cases e;constructor
 ·intro hn;rcases K.find w hkey es.toList hks with ⟨h1,h2⟩|⟨i,x,h1,h2,h3⟩
  ·exact h1
  ·exfalso;have hlt:=(List.getElem?_eq_some_iff.1 h2).1;have hp':l[i]?=some (l[i]'(by simp at hlt;omega)):=(by simp);exact hn _ (List.mem_of_getElem? hp') ((hr i x _ (by simpa using h2) hp').1.symm.trans h3)
 ·intro av hav;obtain ⟨n,hn⟩:=List.getElem?_of_mem hav;have hlt:=(List.getElem?_eq_some_iff.1 hn).1;have hen:es[n]?=some (es[n]'(by omega)):=by simp
  have hk1:=hr n _ _ hen hn;rcases K.find w hkey es.toList hks with ⟨h1,h2⟩|⟨i,x,h1,h2,h3⟩
  ·exact absurd hk1.1 (h2 _ (by simp))
  ·have h2':es[i]?=some x:=(by simpa using h2);have hii:i=n:=by
    have hnd:=hst.2.2;have g1:(es.toList.map (·.key))[i]?=some key:=(by rw [List.getElem?_map,Array.getElem?_toList,h2'];simp [h3]);have g2:(es.toList.map (·.key))[n]?=some key:=(by rw [List.getElem?_map,Array.getElem?_toList,hen];simp [hk1.1]);exact nodup_idx hnd g1 g2
   subst hii;rw [hen] at h2';cases h2';exact ⟨_,_,h1,hk1.2,(hg _ hav).2⟩
def foundG (l:Ents)(key:Value)(zero:AV)(ok:Bool)(x:AV):Prop:=((∀p∈l,p.1≠key)∧x=if ok then .tup [zero,.pv (.val (.bool false))] else zero)∨∃av,(key,av)∈l∧x=if ok then .tup [av,.pv (.val (.bool true))] else av
theorem sem1_getG {t k e:Nat}{m x:Operand}{ok:Bool}(hdst:∀d,o.dst=some d→d<C.fn.ntmps)(ho:o.op = .lookup t m x ok)(ht:C.P.underlying t=some (.map k e))(K:Keyed C.P k){zero:AV}(hz:∃z,(∀w,(zeroValue e).run C.P w = .ok z w)∧∀(w:World) (F:Nat→Prop) (hd:Nm→Hd),Rep w F hd zero z){key:Value}{kl:Lit}{l:Ents}{y:AV}
 (fp:List (Nm × Blk)) (hm:mapIn ev fp C.P k l m) (hx:∀(w:World) (F:Nat→Prop) (hd:Nm→Hd) (u:Value),Rep w F hd (ev x) u→u=key) (hkey:keyOf C.P k key=some kl) (hf:foundG l key zero ok y) :
 Sem1 C o ev fp ⟨y,[]⟩:=by
 refine sem1_read hdst fun L hd F a w hev hfp hi=>?_;obtain ⟨j,es,clock,e1,q2,q3⟩:=mapIn_at hi hm hfp (hev m (by simp [ho,Op.operands]));have e2:=hx _ _ _ _ (hev x (by simp [ho,Op.operands]));obtain ⟨f1,f2⟩:=mapG_find K q3 hkey;obtain ⟨z,hz,hzr⟩:=hz;rcases hf with ⟨h1,rfl⟩|⟨av,h1,rfl⟩
 ·refine ⟨if ok then .tuple #[z,.bool false] else z,?_,?_⟩
  ·simp [execOp,ho,e1,e2,Instr.lookup,run_underlying ht,getObj,Sem.run,q2,Result.andThen,K.check w _ hkey,f1 h1,hz]
   try cases ok<;>rfl
  ·cases ok with
   |false=>exact hzr w F hd
   |true=>exact rep_pair (hzr w F hd) (rep_val rfl)
 ·obtain ⟨i,v,g1,g2,g3⟩:=f2 av h1;refine ⟨if ok then .tuple #[v,.bool true] else v,?_,?_⟩
  ·simp [execOp,ho,e1,e2,Instr.lookup,run_underlying ht,getObj,Sem.run,q2,Result.andThen,K.check w _ hkey,g1]
   try cases ok<;>rfl
  ·cases ok with
   |false=>exact g2.bare g3
   |true=>exact rep_pair (g2.bare g3) (rep_val rfl)
theorem sem1_lenG {t k e:Nat}{m:Operand}{c:Call}(hdst:∀d,o.dst=some d→d<C.fn.ntmps)(ho:o.op = .call c)(hc:c.callee = .builtin .len)(hx':c.args = #[m])(hts:c.argTypes = #[t])(ht:C.P.underlying t=some (.map k e)){l:Ents}
 (fp:List (Nm × Blk)) (hm:mapIn ev fp C.P k l m):Sem1 C o ev fp ⟨.pv (.val (.int .i64 l.length)),[]⟩:=by
 refine sem1_read hdst fun L hd F a w hev hfp hi=>?_;obtain ⟨j,es,clock,e1,q2,q3⟩:=mapIn_at hi hm hfp (hev m (by simp [ho,Op.operands,Call.operands,hx',hc]));obtain ⟨es',clock',e,hst,hg,hsz,hr⟩:=q3;cases e;exact ⟨_,by simp [execOp,ho,resolve,hc,hx',hts,invoke,builtin,e1,Builtin.len_,run_underlying ht,getObj,Sem.run,q2,Result.andThen,goInt,hsz],rep_val rfl⟩
end
def iterG (P:Program)(k:Nat)(m left:Ents)(last:Option (Value × AV))(w:World)(F:Nat→Prop)(o:Obj):Prop:=
 ∃b es clock since seen c0,o = .mapIter (some b) since seen c0∧F b∧w.heap[b]?=some (.map es clock)∧mapG P k m w F (.map es clock)∧(∀x∈es.toList,x.born<since)∧since≤c0∧since≤clock∧
  (left.map (·.1)).Nodup∧(∀q∈left,q∈m)∧(∀(j:Nat) (x:MapEntry) (p:Value × AV),es[j]?=some x→m[j]?=some p→(seen.contains x.born=false↔p∈left))∧
  ∀p,last=some p→∃(seen':Array Nat) (x:MapEntry) (j:Nat),seen=seen'.push x.born∧c0=clock∧es[j]?=some x∧m[j]?=some p
theorem iterG_mono {P:Program}{k:Nat}{m left:Ents}{last:Option (Value × AV)}{w w':World}{F F':Nat→Prop}{o:Obj}(h:iterG P k m left last w F o)(h1:∀k,F k→w'.heap[k]?=w.heap[k]?)(h2:∀k,F k→F' k):iterG P k m left last w' F' o:=by
 obtain ⟨b,es,clock,since,seen,c0,e,hF,hb,hm,r⟩:=h;exact ⟨b,es,clock,since,seen,c0,e,h2 b hF,(h1 b hF).trans hb,mapG_mono hm h1 h2,r⟩
section
variable {C:Ctx} {o:Oper} {ev:Operand→AV}
theorem sem1_rangeG {d:Nat}{t:TypeId}{m:Operand}{k e:Nat}{l:Ents}(hd:o.dst=some d)(hn:d<C.fn.ntmps)(ho:o.op = .range t m)(ht:C.P.underlying t=some (.map k e))(hm:ev m = .pv (.opq (mapAt (mapG C.P k l))))(hl:(l.map (·.1)).Nodup) :
 Sem1 C o ev [] ⟨.ptr (.loc d) 0,[(.loc d,some (.gen (iterG C.P k l l none)))]⟩:=by
 refine sem1_of (fun d' h=>by rw [hd] at h;cases h;exact hn) fun L hd' F a w hev hfp hnew hi=>?_;obtain ⟨m1,m2⟩:=hnew (.loc d) (by simp [news]);have e1:=hev m (by simp [ho,Op.operands]);rw [hm] at e1;generalize hz:a.eval m=z at e1;cases e1 with
 |pv _ _ hp=>cases hp with
  |opq _ _ _ hq=>
   obtain ⟨j,ob,rfl,hF,h4,h5⟩:=hq w F (fun _ _=>rfl) (fun _ h=>h);obtain ⟨es,clock,rfl,hst,hg,hsz,hr⟩:=id h5;have hrun:=run_range_map w t k e j es clock ht h4;have hjl:j<w.heap.size:=(hi.fin j hF).1;have hold:(w.alloc (.mapIter (some j) clock #[] clock)).heap[j]?=w.heap[j]?:=Below.heap_alloc _ _ _ hjl;have hag:∀i,F i→(w.alloc (.mapIter (some j) clock #[] clock)).heap[i]?=w.heap[i]?:=fun i hi'=>Below.heap_alloc _ _ _ (hi.fin i hi').1;have hG:iterG C.P k l l none (w.alloc (.mapIter (some j) clock #[] clock)) F (.mapIter (some j) clock #[] clock):=by
    refine ⟨j,es,clock,clock,#[],clock,rfl,hF,hold.trans h4,mapG_mono h5 hag (fun _ h=>h),hst.1,Nat.le_refl _,Nat.le_refl _,hl,fun q hq=>hq,fun i x p hx hp=>?_,fun p h=>by cases h⟩;simp;exact List.mem_of_getElem? hp
   obtain ⟨hd2,g1,g2⟩:=inv_obj hi (r:=.loc d) (by simp) m1 m2 (.mapIter (some j) clock #[] clock) (.gen (iterG C.P k l l none)) (fun hd2 h=>⟨_,_,h,heap_alloc_new w _,fun w2 F2 a1 a2=>iterG_mono hG a1 a2⟩);refine ⟨_,_,hd2,F,.inl ?_,g1,.ptr _ 0 (.pointer (some ⟨w.heap.size,0,none⟩)) rfl fun k hk=>by rw [g2] at hk;cases hk;rfl⟩;simp [execOp,ho,hz,hrun,Result.andThen]
theorem rep_three {w:World}{F:Nat→Prop}{hd:Nm→Hd}{x y z:AV}{u v t:Value}(h1:Rep w F hd x u)(h2:Rep w F hd y v)(h3:Rep w F hd z t):Rep w F hd (.tup [x,y,z]) (.tuple #[u,v,t]):=
 .tup _ [u,v,t] rfl fun j c q h4 h5=>by
  rcases j with _|_|_|j
  ·simp at h4 h5;subst h4 h5;exact h1
  ·simp at h4 h5;subst h4 h5;exact h2
  ·simp at h4 h5;subst h4 h5;exact h3
  ·simp at h4
theorem stepN_nextG {L:LS}{ops:Array Oper}{it:Operand}{r:Nm}{k:Nat}(hg:guardOf ops o L=some true)(hdst:∀d,o.dst=some d→d<C.fn.ntmps)(ho:o.op = .next it false){m left:Ents}{last:Option (Value × AV)}(hk1:∀p∈m,p.1.oneCell'=true)
 (hit:L.ev it = .ptr r 0) (hb:L.blk r=some (.gen (iterG C.P k m left last))) :
 StepN C ops o L fun L'=>(left = []∧L'=L.put o.dst (.tup [.pv (.val (.bool false))]))∨
  ∃l1 p l2,left=l1++p::l2∧L'=(L.upd [(r,some (.gen (iterG C.P k m (l1++l2) (some p))))]).put o.dst (.tup [.pv (.val (.bool true)),.pv (.val p.1),p.2]):=by
 refine ⟨hg,fun hd F a w hi J Q hJ=>?_⟩;have e1:=ev_rep hi it;rw [hit] at e1;have hbb:=hi.blocks r;rw [hb] at hbb;obtain ⟨j,oj,q1,q2,q3⟩:=hbb;obtain ⟨b,es,clock,since,seen,c0,rfl,hF,hbm,hm,hold,hsc,hsk,hln,hlm,hiff,hlast⟩:=q3 w F (fun _ _=>rfl) (fun _ h=>h);obtain ⟨es',clock',e',hst,hgk,hsz,hr⟩:=id hm;cases e';have e1:a.eval it = .pointer (some ⟨j,0,none⟩):=by cases e1 with|ptr _ _ _ _ h=>exact h j q1
 have hat:∀(i:Nat) (x:MapEntry),es[i]?=some x→∃p,m[i]?=some p:=fun i x hx=>by
  have:=(Array.getElem?_eq_some_iff.1 hx).1;exact ⟨m[i]'(by omega),by simp⟩
 unfold Oper.wp;rcases run_next_at (P:=C.P) w o.type j b since c0 seen es clock q2 hbm hold hsc with ⟨h0,hrun⟩|⟨x,hx,w1,hw1,hrun⟩
 ·have:(execOp a.eval o).run C.P w = .ok (.value (.tuple #[.bool false])) w:=by simp [execOp,ho,e1,hrun,Result.andThen]
  rw [this];refine hJ _ _ _ hd F (.inl ⟨?_,rfl⟩) (hi.put o.dst (.tup _ [.bool false] rfl fun j c u h1 h2=>?_) hdst)
  ·refine List.eq_nil_iff_forall_not_mem.2 fun p hp=>?_;obtain ⟨i,hi'⟩:=List.getElem?_of_mem (hlm p hp);have hil:=(List.getElem?_eq_some_iff.1 hi').1;have hex:es[i]?=some (es[i]'(by omega)):=(by simp);have h1:=(hiff i _ p hex hi').2 hp;have h2:=all_seen es seen h0 _ (by simp:es[i]'(by omega)∈es.toList);rw [h1] at h2;cases h2
  ·cases j with
   |zero=>simp at h1 h2;subst h1 h2;exact rep_val rfl
   |succ j=>simp at h1
 ·obtain ⟨hxe,hxs⟩:=mem_left hx;obtain ⟨i,hi'⟩:=List.getElem?_of_mem hxe;have hex:es[i]?=some x:=by simpa using hi'
  obtain ⟨p,hp⟩:=hat i x hex;have hpl:=(hiff i x p hex hp).1 hxs;obtain ⟨hkey,hval⟩:=hr i x p hex hp;obtain ⟨l1,l2,e2⟩:=List.append_of_mem hpl;have:(execOp a.eval o).run C.P w = .ok (.value (.tuple #[.bool true,x.key,x.val])) (setBlock w1 j (.mapIter (some b) since (seen.push x.born) clock)):=by simp [execOp,ho,e1,hrun,Result.andThen]
  rw [this];have hj1:w1.heap[j]?=some (.mapIter (some b) since seen c0):=by rcases hw1 with rfl|rfl<;>exact q2
  have hb1:∀i:Nat,w1.heap[i]?=w.heap[i]?:=fun i=>by rcases hw1 with rfl|rfl<;>rfl
  have hs1:w1.heap.size=w.heap.size:=by rcases hw1 with rfl|rfl<;>rfl
  obtain ⟨g1,g2,g3⟩:=grown_set (o':=.mapIter (some b) since (seen.push x.born) clock) hj1;have hjF:¬F j:=(hi.mine r j (by rw [q1];exact rfl)).1;have hinv1:Inv C L hd F a w1:=by rcases hw1 with rfl|rfl;exact hi;exact drew_inv hi
  have hag:∀i,F i→(setBlock w1 j (.mapIter (some b) since (seen.push x.born) clock)).heap[i]?=w.heap[i]?:=fun i hiF=>by
   rw [←hb1 i];exact (heap_set hj1).2 i fun e=>hjF (e ▸ hiF)
  have hG:iterG C.P k m (l1++l2) (some p) (setBlock w1 j (.mapIter (some b) since (seen.push x.born) clock)) F (.mapIter (some b) since (seen.push x.born) clock):=by
   rw [e2] at hln;have hnd:(l1.map (·.1)++p.1::l2.map (·.1)).Nodup:=(by simpa using hln);obtain ⟨n1,n2,n3⟩:=List.nodup_append.1 hnd;obtain ⟨n4,n5⟩:=List.nodup_cons.1 n2;refine ⟨b,es,clock,since,seen.push x.born,clock,rfl,hF,(hag b hF).trans hbm,mapG_mono hm hag (fun _ h=>h),hold,hsk,hsk,?_,fun q hq=>hlm q ?_,fun i2 x2 p2 hx2 hp2=>?_,fun p' h=>?_⟩
   ·rw [List.map_append];exact List.nodup_append.2 ⟨n1,n5,fun u hu v hv=>n3 u hu v (by simp [hv])⟩
   ·rw [e2];rcases List.mem_append.1 hq with hq|hq<;>simp [hq]
   ·have hborn:x2.born=x.born↔i2=i:=by
     constructor
     ·intro h;have:=born_inj hst.2.1 (List.mem_of_getElem? (by rw [Array.getElem?_toList];exact hx2)) hxe h;subst this;exact nodup_idx hst.2.2 (x:=x2.key) (by rw [List.getElem?_map,Array.getElem?_toList,hx2];rfl) (by rw [List.getElem?_map,Array.getElem?_toList,hex];rfl)
     ·intro h;subst h;rw [hex] at hx2;cases hx2;rfl
    have hkinj:∀(i j:Nat) (p q:Value × AV),m[i]?=some p→m[j]?=some q→p.1=q.1→i=j:=fun i j p q h1 h2 e=>by
     have l1:=(List.getElem?_eq_some_iff.1 h1).1;have l2:=(List.getElem?_eq_some_iff.1 h2).1;have x1:es[i]?=some (es[i]'(by omega)):=(by simp);have x2:es[j]?=some (es[j]'(by omega)):=(by simp);have k1:=(hr i _ p x1 h1).1;have k2:=(hr j _ q x2 h2).1;exact nodup_idx hst.2.2 (x:=p.1) (by rw [List.getElem?_map,Array.getElem?_toList,x1];simp [k1]) (by rw [List.getElem?_map,Array.getElem?_toList,x2];simp [k2,e])
    rw [show ((seen.push x.born).contains x2.born=false)↔(seen.contains x2.born=false∧¬x2.born=x.born) by simp,hiff i2 x2 p2 hx2 hp2,hborn,e2];constructor
    ·rintro ⟨h1,h2⟩
     simp only [List.mem_append,List.mem_cons] at h1 ⊢;rcases h1 with h1|h1|h1
     ·exact .inl h1
     ·subst h1;exact absurd (hkinj i2 i p2 p2 hp2 hp rfl) h2
     ·exact .inr h1
    ·intro h1;refine ⟨by simp only [List.mem_append,List.mem_cons] at h1 ⊢;exact h1.elim .inl fun h=>.inr (.inr h),fun h=>?_⟩;subst h;rw [hp] at hp2;cases hp2;rcases List.mem_append.1 h1 with h1|h1
     ·exact n3 p.1 (List.mem_map.2 ⟨p,h1,rfl⟩) p.1 (by simp) rfl
     ·exact n4 (List.mem_map.2 ⟨p,h1,rfl⟩)
   ·cases h;exact ⟨seen,x,i,rfl,rfl,hex,hp⟩
  refine hJ _ _ _ hd F (.inr ⟨l1,p,l2,e2,rfl⟩) ((inv_turn hinv1 q1 (.gen (iterG C.P k m (l1++l2) (some p))) g1 g2 ⟨j,_,q1,g3,fun w2 F2 a1 a2=>iterG_mono hG a1 a2⟩).put o.dst ?_ hdst);have hpm:=List.mem_of_getElem? hp;refine rep_three (rep_val rfl) ?_ ?_
  ·rw [hkey];exact rep_val (hk1 p hpm)
  ·exact (hval.mono hag (fun _ h=>h) (fun q hq=>.inl rfl)).bare (hgk p hpm).2
theorem sem1_entryG {it:Operand}{r:Nm}{k:Nat}(hdst:∀d,o.dst=some d→d<C.fn.ntmps)(ho:o.op = .entry it){m left:Ents}{p:Value × AV}(h1:p.1.oneCell'=true)
 (hit:ev it = .ptr r 0):Sem1 C o ev [(r,.gen (iterG C.P k m left (some p)))] ⟨.tup [.pv (.val p.1),p.2],[]⟩:=by
 refine sem1_read hdst fun L hd F a w hev hfp hi=>?_;have e1:=hev it (by simp [ho,Op.operands]);rw [hit] at e1;have hb:=hi.blocks r;rw [hfp (r,.gen (iterG C.P k m left (some p))) (by simp)] at hb;obtain ⟨j,oj,q1,q2,q3⟩:=hb;obtain ⟨b,es,clock,since,seen,c0,rfl,hF,hbm,hm,hold,hsc,hsk,hln,hlm,hiff,hlast⟩:=q3 w F (fun _ _=>rfl) (fun _ h=>h);obtain ⟨seen',x,i,rfl,rfl,hex,hp⟩:=hlast p rfl;obtain ⟨es',clock',e',hst,hgk,hsz,hr⟩:=id hm;cases e';have e1:a.eval it = .pointer (some ⟨j,0,none⟩):=by cases e1 with|ptr _ _ _ _ h=>exact h j q1
 have hrun:=run_entry_at (P:=C.P) w j b since seen' es c0 x q2 hbm (List.mem_of_getElem? (by rw [Array.getElem?_toList];exact hex)) hst.2.1;obtain ⟨hkey,hval⟩:=hr i x p hex hp;exact ⟨.tuple #[x.key,x.val],by simp [execOp,ho,e1,hrun,Result.andThen],rep_pair (by rw [hkey];exact rep_val h1) (hval.bare (hgk p (List.mem_of_getElem? hp)).2)⟩
end
section
variable {C:Ctx} {P:Program} {Gl:Granted} {T:TT} {n:Nat} {rs:List ResultVar} {v:AV} {post:List (Nm × Option Blk)} {ops:Array Oper} {draw:Bool} {i:Nat} {o:Oper} {opl:List Oper} {done:List Trace} {todo:List Item} {L:LS}
def keyIs (x:AV)(key:Value):Prop:=∀(w:World) (F:Nat→Prop) (hd:Nm→Hd) (u:Value),Rep w F hd x u→u=key
theorem key_one (u:Value):keyIs (.pv (.val u)) u:=fun w F hd v h=>bool_of h
theorem key_pair (a b:Value):keyIs (.agg [.pv (.val a),.pv (.val b)]) (.agg #[a,b]):=fun w F hd u h=>by
 cases h with
 |agg _ cs hl h _=>
  match cs,hl with
  |[x,y],_=>
   have h1:=bool_of (h 0 _ x rfl rfl);have h2:=bool_of (h 1 _ y rfl rfl);rw [h1,h2]
theorem Rd.mapMake (h:Rd C P Gl T n rs v post){d t:Nat}(k:Nat)(h1:o.op = .makeMap t none)(h2:o.dst=some d)(hs:Nat.blt d n=true∧guardOf ops o L=some true∧newOk L (.loc d)=true∧okPair ops draw done o ⟨i,[],[.loc d]⟩ [.loc d] opl=true)
 (hnext:Go C (.reg ops draw (i+1) opl (nexts o draw ⟨i,[],[.loc d]⟩ done) todo (L.app o.dst ⟨.hmap (.loc d),[(.loc d,some (.gen (mapG P k [])))]⟩))):Go C (.reg ops draw i (o::opl) done todo L):=by
 obtain ⟨h3,h4,h5,h6⟩:=hs;obtain ⟨n1,n2⟩:=newOk_spec h5;have:=h.prog;subst this;exact reg_step h4 (sem1_mkG h2 (by rw [h.n];exact Nat.blt_eq.mp h3) h1 k) (by simp) (fun r hr=>by
  simp [news] at hr;subst hr;exact ⟨n1,n2,by simp [mayMake1,h2,h1,makes]⟩) h6 hnext
theorem Rd.mapPut (h:Rd C P Gl T n rs v post){t k e:Nat}(ht:P.underlying t=some (.map k e))(K:Keyed P k)(r:Nm){m x y:Operand}{key:Value}{kl:Lit}{av:AV}{l:Ents}(l':Ents)(h1:o.op = .mapUpdate t m x y∨o.op = .insert t m x y)(hx:keyIs (L.ev x) key)(hkey:keyOf P k key=some kl)(hp:putG l key av l')
 (hs:guardOf ops o L=some true∧dstOk n o=true∧L.ev m = .hmap r∧L.ev y=av∧L.blk r=some (.gen (mapG P k l))∧av.ments = []∧okPair ops draw done o ⟨i,[r],[r]⟩ [] opl=true)
 (hnext:Go C (.reg ops draw (i+1) opl (nexts o draw ⟨i,[r],[r]⟩ done) todo (L.app o.dst ⟨.any,[(r,some (.gen (mapG P k l')))]⟩))):Go C (.reg ops draw i (o::opl) done todo L):=by
 obtain ⟨h2,h3,h4,h5,h6,h7,h8⟩:=hs;have:=h.prog;subst this;exact reg_step h2 (sem1_putG (fun d hd=>by rw [h.n];exact dstOk_spec h3 d hd) h1 ht K h4 hx h5 h7 hkey hp) (by simpa using h6) (fun q hq=>by simp [news,Nm.eqb_iff] at hq) h8 hnext
theorem Rd.mapGet (h:Rd C P Gl T n rs v post){t k e:Nat}(ht:P.underlying t=some (.map k e))(K:Keyed P k)(r:Nm){m x:Operand}{ok:Bool}{zero:AV}(hz:∃z,(∀w,(zeroValue e).run P w = .ok z w)∧∀(w:World) (F:Nat→Prop) (hd:Nm→Hd),Rep w F hd zero z){key:Value}{kl:Lit}{l:Ents}(y:AV)
 (h1:o.op = .lookup t m x ok) (hx:keyIs (L.ev x) key) (hkey:keyOf P k key=some kl) (hf:foundG l key zero ok y) (hs:guardOf ops o L=some true∧dstOk n o=true∧L.ev m = .hmap r∧L.blk r=some (.gen (mapG P k l))∧okPair ops draw done o ⟨i,[r],[]⟩ y.ments opl=true)
 (hnext:Go C (.reg ops draw (i+1) opl (nexts o draw ⟨i,[r],[]⟩ done) todo (L.app o.dst ⟨y,[]⟩))):Go C (.reg ops draw i (o::opl) done todo L):=by
 obtain ⟨h2,h3,h4,h5,h6⟩:=hs;have:=h.prog;subst this;exact reg_step h2 (sem1_getG (fun d hd=>by rw [h.n];exact dstOk_spec h3 d hd) h1 ht K hz [(r,.gen (mapG C.P k l))] (.inl ⟨r,h4,rfl⟩) hx hkey hf) (by simpa using h5) (by simp [news]) (by simpa [upsMents] using h6) hnext
theorem Rd.mapLen (h:Rd C P Gl T n rs v post){t k e:Nat}(ht:P.underlying t=some (.map k e))(r:Nm){m:Operand}{l:Ents}(h1:o.op = .call { callee:=.builtin .len,args:=#[m],argTypes:=#[t] })
 (hs:guardOf ops o L=some true∧dstOk n o=true∧L.ev m = .hmap r∧L.blk r=some (.gen (mapG P k l))∧okPair ops draw done o ⟨i,[r],[]⟩ [] opl=true)
 (hnext:Go C (.reg ops draw (i+1) opl (nexts o draw ⟨i,[r],[]⟩ done) todo (L.app o.dst ⟨.pv (.val (.int .i64 l.length)),[]⟩))):Go C (.reg ops draw i (o::opl) done todo L):=by
 obtain ⟨h2,h3,h4,h5,h6⟩:=hs;have:=h.prog;subst this;exact reg_step h2 (sem1_lenG (fun d hd=>by rw [h.n];exact dstOk_spec h3 d hd) h1 rfl rfl rfl ht [(r,.gen (mapG C.P k l))] (.inl ⟨r,h4,rfl⟩)) (by simpa using h5) (by simp [news]) h6 hnext
theorem Rd.mapRange (h:Rd C P Gl T n rs v post){t k e:Nat}(ht:P.underlying t=some (.map k e)){d:Nat}{m:Operand}{l:Ents}(hl:(l.map (·.1)).Nodup)(h1:o.op = .range t m)(h2:o.dst=some d)
 (hs:Nat.blt d n=true∧guardOf ops o L=some true∧newOk L (.loc d)=true∧L.ev m = .pv (.opq (mapAt (mapG P k l)))∧okPair ops draw done o ⟨i,[],[.loc d]⟩ [.loc d] opl=true)
 (hnext:Go C (.reg ops draw (i+1) opl (nexts o draw ⟨i,[],[.loc d]⟩ done) todo (L.app o.dst ⟨.ptr (.loc d) 0,[(.loc d,some (.gen (iterG P k l l none)))]⟩))):Go C (.reg ops draw i (o::opl) done todo L):=by
 obtain ⟨h3,h4,h5,h6,h7⟩:=hs;obtain ⟨n1,n2⟩:=newOk_spec h5;have:=h.prog;subst this;exact reg_step h4 (sem1_rangeG h2 (by rw [h.n];exact Nat.blt_eq.mp h3) h1 ht h6 hl) (by simp) (fun r hr=>by
  simp [news] at hr;subst hr;exact ⟨n1,n2,by simp [mayMake1,h2,h1,makes]⟩) h7 hnext
theorem Rd.mapNext (h:Rd C P Gl T n rs v post)(k:Nat)(r:Nm){it:Operand}{m left:Ents}{last:Option (Value × AV)}(hk1:∀p∈m,p.1.oneCell'=true)(h1:o.op = .next it false)
 (hs:guardOf ops o L=some true∧dstOk n o=true∧L.ev it = .ptr r 0∧L.blk r=some (.gen (iterG P k m left last)))
 (hdone:left = []→Go C (.reg ops false (i+1) opl [] todo (L.put o.dst (.tup [.pv (.val (.bool false))]))))
 (hstep:∀l1 p l2,left=l1++p::l2→Go C (.reg ops false (i+1) opl [] todo ((L.upd [(r,some (.gen (iterG P k m (l1++l2) (some p))))]).put o.dst (.tup [.pv (.val (.bool true)),.pv (.val p.1),p.2])))) :
 Go C (.reg ops false i (o::opl) done todo L):=by
 obtain ⟨h2,h3,h4,h5⟩:=hs;have:=h.prog;subst this;refine reg_stepN _ (stepN_nextG h2 (fun d hd=>by rw [h.n];exact dstOk_spec h3 d hd) h1 hk1 h4 h5) fun L1 hL1=>?_;rcases hL1 with ⟨e,rfl⟩|⟨l1,p,l2,e,rfl⟩
 ·exact hdone e
 ·exact hstep l1 p l2 e
theorem Rd.mapEntry (h:Rd C P Gl T n rs v post)(k:Nat)(r:Nm){it:Operand}{m left:Ents}{p:Value × AV}(hp1:p.1.oneCell'=true)(h1:o.op = .entry it)
 (hs:guardOf ops o L=some true∧dstOk n o=true∧L.ev it = .ptr r 0∧L.blk r=some (.gen (iterG P k m left (some p)))∧okPair ops draw done o ⟨i,[r],[]⟩ (p.2.ments++[]) opl=true)
 (hnext:Go C (.reg ops draw (i+1) opl (nexts o draw ⟨i,[r],[]⟩ done) todo (L.app o.dst ⟨.tup [.pv (.val p.1),p.2],[]⟩))):Go C (.reg ops draw i (o::opl) done todo L):=by
 obtain ⟨h2,h3,h4,h5,h6⟩:=hs;have:=h.prog;subst this;exact reg_step h2 (sem1_entryG (fun d hd=>by rw [h.n];exact dstOk_spec h3 d hd) h1 hp1 h4) (by simpa using h5) (by simp [news]) (by simpa [upsMents,AV.ments,AV.ments.mentsL] using h6) hnext
end
end Go.Abs
namespace Go.Abs
open Go.RowKit
theorem inv_turnRow {C:Ctx}{L:LS}{hd:Nm→Hd}{F:Nat→Prop}{a:Act}{w w':World}(hi:Inv C L hd F a w){r:Nm}{v:Value}{g:Nat}(hr:hd r = .row v)(hv:v.ownBlock=some g)(b:Blk)(hg:w.grownBy w' (some g))(hsz:w'.heap.size=w.heap.size)
 (hB:HoldB w' F hd r (some b)):Inv C (L.upd [(r,some b)]) hd F a w':=by
 have hown:(hd r).owns g:=by rw [hr];exact hv
 refine inv_upd hi _ hd (fun j=>j=g) hg.os hg.tape hg.output hg.size (fun j hj hne=>hg.block j hj (by simpa using hne)) (fun j hj=>⟨r,by rw [hj];exact hown⟩) (fun s hs=>⟨rfl,fun j hj hjk=>?_⟩) (fun s b' hs=>?_) (fun s _=>.inl rfl) hi.sep (fun r' j hj=>⟨.inl ⟨r',hj⟩,?_⟩)
 ·have hne:s≠r:=fun e=>hs (by simp [e]);exact hi.sep s r j hne hj (by rw [hjk];exact hown)
 ·by_cases hsr:s=r
  ·subst hsr;simp only [upsGet,if_true,Option.some.injEq] at hs;subst hs;exact hB
  ·have:r≠s:=fun e=>hsr e.symm;simp [upsGet,this] at hs
 ·have:=(hi.mine r' j hj).2.1;rw [hsz];exact this
theorem set_at {α:Type}(l:List α)(k:Nat)(x:α)(h:k<l.length)(i:Nat):(l.set k x)[i]?=if k=i then some x else l[i]?:=by
 rw [List.getElem?_set];by_cases e:k=i
 ·rw [if_pos e,if_pos e,if_pos h]
 ·rw [if_neg e,if_neg e]
theorem mid_get {α:Type}(l m:List α)(o:Nat)(h:o+m.length≤l.length)(p:Nat):(l.take o++m++l.drop (o+m.length))[p]?=if o≤p∧p<o+m.length then m[p-o]? else l[p]?:=by
 have h1:(l.take o).length=o:=by simp;omega
 rw [List.append_assoc];by_cases hp:p<o
 ·rw [List.getElem?_append_left (by omega),List.getElem?_take,if_pos hp,if_neg (by omega)]
 ·rw [List.getElem?_append_right (by omega),h1];by_cases hp2:p<o+m.length
  ·rw [List.getElem?_append_left (by omega),if_pos ⟨by omega,hp2⟩]
  ·rw [List.getElem?_append_right (by omega),List.getElem?_drop,if_neg (by omega)];congr 1;omega
section
variable {C:Ctx} {o:Oper} {ev:Operand→AV}
theorem sem1_storeE {T:TT}(hT:TOk C.P T){r:Nm}{t:Nat}{x y:Operand}{e sz k f:Nat}{es:List (List PV)}{el ps:List PV}{inf:TI}(hdst:∀d,o.dst=some d→d<C.fn.ntmps)(ho:o.op = .store t x y)(hl:lkT T t=some inf)(hx:ev x = .ept r sz k f)
 (hel:es[k]?=some el) (hy:(ev y).cellsOf=some (ps.map AV.pv)) (hps:ps.length=inf.size) (hfit:f+ps.length≤sz) :
 Sem1 C o ev [(r,.row e sz es)] ⟨.any,[(r,some (.row e sz (es.set k (el.take f++ps++el.drop (f+ps.length)))))]⟩:=by
 refine sem1_of hdst fun L hd F a w hev hfp hnew hi=>?_;have e1:=hev x (by simp [ho,Op.operands]);rw [hx] at e1;have hb:=hi.blocks r;rw [hfp (r,.row e sz es) (by simp)] at hb;obtain ⟨v,cells,q1,q2,q3,q4,q5⟩:=hb;obtain ⟨c1,c2,c3⟩:=cellsOf_rep (hev y (by simp [ho,Op.operands])) hy;have hkl:=(List.getElem?_eq_some_iff.1 hel).1;obtain ⟨p1,p2⟩:=q2;rcases p2 with ⟨_,h0⟩|⟨g,cap,cur,rfl,p3,p4,p5,p6,p7,p8⟩
 ·omega
 have hp:a.eval x = .pointer (some ⟨g,k*sz+f,none⟩):=by cases e1 with|ept _ _ _ _ _ _ hp=>exact hp g es.length cap q1
 have hc1:(a.eval y).cells.toList.length=ps.length:=by simpa using c1
 have hksz:k*sz+sz≤es.length*sz:=by
  have:=Nat.mul_le_mul_right sz (show k+1≤es.length by omega);rw [Nat.add_mul,Nat.one_mul] at this;exact this
 have hcap:es.length*sz≤cap*sz:=Nat.mul_le_mul_right sz p5;have hfit':k*sz+f+0+(a.eval y).cells.toList.length≤cur.size:=by rw [hc1,p7];omega
 have hst:=run_storeCells_at C.P g (k*sz+f) e (a.eval y).cells.toList 0 cur w p4 hfit' c3;obtain ⟨inf',z,j1,j2,_⟩:=(lkT_ok hT hl).info;have hs:(a.eval y).cells.size=inf'.size:=by rw [c1,List.length_map,hps,j2]
 generalize hvs:(a.eval y).cells.toList=vs at hst hc1 hfit' c3;generalize hw':w.setRow g (cur.toList.take (k*sz+f+0)++vs++cur.toList.drop (k*sz+f+0+vs.length)).toArray=w' at hst;have hother:∀j,j≠g→w'.heap[j]?=w.heap[j]?:=fun j hj=>by rw [←hw'];exact setRow_other w g j _ hj
 have hnew':w'.heap[g]?=some (.cells (cur.toList.take (k*sz+f+0)++vs++cur.toList.drop (k*sz+f+0+vs.length)).toArray e (0,0)):=by rw [←hw'];exact setRow_heap w g cur _ e _ p4
 have hsz':w'.heap.size=w.heap.size:=by rw [←hw'];simp
 have hgr:w.grownBy w' (some g):=⟨by rw [←hw'];rfl,by rw [←hw'];rfl,by rw [←hw'];rfl,by rw [hsz'];exact Nat.le_refl _,fun j _ hj=>hother j fun e=>hj (by rw [e])⟩;have hgF:¬F g:=(hi.mine r g (by rw [q1];exact rfl)).1;have hlen':(cur.toList.take (k*sz+f+0)++vs++cur.toList.drop (k*sz+f+0+vs.length)).length=cur.size:=by
  simp only [List.length_append,List.length_take,List.length_drop,Array.length_toList];omega
 have hcl:cells.length=es.length*sz:=p1;have hcg:∀p,p<es.length*sz→cells[p]?=cur.toList[p]?:=fun p hp=>by rw [←p8,List.getElem?_take,if_pos hp]
 refine ⟨_,w',hd,F,.inr ⟨?_,rfl⟩,inv_turnRow hi q1 rfl _ hgr hsz' ⟨.slice (some ⟨g,0,none⟩) es.length cap,(cur.toList.take (k*sz+f+0)++vs++cur.toList.drop (k*sz+f+0+vs.length)).take (es.length*sz),q1,⟨?_,.inr ⟨g,cap,_,?_,p3,hnew',?_,p6,?_,?_⟩⟩,fun i el' h=>?_,fun i j el' c u h1 h2 h3=>?_,fun u hu=>?_⟩,.any _⟩
 ·simp [execOp,ho,hp,Instr.storeAt,Instr.sureAddr,storeVar,sizeOf,typeInfo,j1,hs,hvs,hst]
 ·rw [List.length_take,hlen',p7,List.length_set];omega
 ·rw [List.length_set]
 ·rw [List.length_set];exact p5
 ·simp only [List.size_toArray,hlen',p7]
 ·simp [List.length_set]
 ·rw [set_at _ _ _ hkl] at h;split at h
  ·rename_i hki;subst hki;cases h;have:=q3 k el hel;simp only [List.length_append,List.length_take,List.length_drop];omega
  ·exact q3 i el' h
 ·have hjl:j<sz:=by
   have hel':el'.length=sz:=by
    rw [set_at _ _ _ hkl] at h1;split at h1
    ·rename_i hki;subst hki;cases h1;have:=q3 k el hel;simp only [List.length_append,List.length_take,List.length_drop];omega
    ·exact q3 i el' h1
   have:=(List.getElem?_eq_some_iff.1 h2).1;omega
  have hil:i<es.length:=by have:=(List.getElem?_eq_some_iff.1 h1).1;rwa [List.length_set] at this
  have hpos:i*sz+j<es.length*sz:=by
   have:=Nat.mul_le_mul_right sz (show i+1≤es.length by omega);rw [Nat.add_mul,Nat.one_mul] at this;omega
  rw [List.getElem?_take,if_pos hpos,mid_get _ _ _ (by rw [Array.length_toList];omega)] at h3;have hmono:∀(c:PV) (u:Value),RepP w F c u→RepP w' F c u:=fun c u hc=>hc.mono (fun j hj=>hother j fun e=>hgF (e ▸ hj)) (fun _ h=>h);apply hmono;rw [set_at _ _ _ hkl] at h1;by_cases hki:k=i
  ·subst hki;rw [if_pos rfl] at h1;cases h1;have hell:=q3 k el hel;rw [mid_get _ _ _ (by omega)] at h2;by_cases hin:f≤j∧j<f+ps.length
   ·rw [if_pos hin] at h2;rw [if_pos (by omega),show k*sz+j-(k*sz+f+0)=j-f by omega] at h3;have:=c2 (j-f) (.pv c) u (by rw [List.getElem?_map,h2];rfl) (by rw [←Array.getElem?_toList,hvs];exact h3);cases this with
    |pv _ _ hp=>exact hp
   ·rw [if_neg hin] at h2;rw [if_neg (by omega),←hcg _ hpos] at h3;exact q4 k j el c u hel h2 h3
  ·rw [if_neg hki] at h1;have hout:¬(k*sz+f+0≤i*sz+j∧i*sz+j<k*sz+f+0+vs.length):=by
    rcases Nat.lt_or_gt_of_ne hki with hlt|hlt
    ·have:=Nat.mul_le_mul_right sz (show k+1≤i by omega);rw [Nat.add_mul,Nat.one_mul] at this;omega
    ·have:=Nat.mul_le_mul_right sz (show i+1≤k by omega);rw [Nat.add_mul,Nat.one_mul] at this;omega
   rw [if_neg hout,←hcg _ hpos] at h3;exact q4 i j el' c u h1 h2 h3
 ·obtain ⟨p,hp'⟩:=List.getElem?_of_mem hu;rw [List.getElem?_take] at hp';split at hp'
  ·rename_i hpl;rw [mid_get _ _ _ (by rw [Array.length_toList];omega)] at hp';split at hp'
   ·exact c3 u (List.mem_of_getElem? hp')
   ·rw [←hcg _ hpl] at hp';exact q5 u (List.mem_of_getElem? hp')
  ·cases hp'
end
section
variable {C:Ctx} {P:Program} {Gl:Granted} {T:TT} {n:Nat} {rs:List ResultVar} {v:AV} {post:List (Nm × Option Blk)} {ops:Array Oper} {draw:Bool} {i:Nat} {o:Oper} {opl:List Oper} {done:List Trace} {todo:List Item} {L:LS}
theorem Rd.storeE (h:Rd C P Gl T n rs v post)(r:Nm){t:Nat}{x y:Operand}{e sz k f:Nat}{es:List (List PV)}{el:List PV}(ps:List PV){inf:TI}(h1:o.op = .store t x y)
 (hs:guardOf ops o L=some true∧dstOk n o=true∧lkT T t=some inf∧L.ev x = .ept r sz k f∧L.blk r=some (.row e sz es)∧es[k]?=some el∧(L.ev y).cellsOf=some (ps.map AV.pv)∧ps.length=inf.size∧f+ps.length≤sz∧okPair ops draw done o ⟨i,[r],[r]⟩ [] opl=true)
 (hnext:Go C (.reg ops draw (i+1) opl (nexts o draw ⟨i,[r],[r]⟩ done) todo (L.app o.dst ⟨.any,[(r,some (.row e sz (es.set k (el.take f++ps++el.drop (f+ps.length)))))]⟩))):Go C (.reg ops draw i (o::opl) done todo L):=by
 obtain ⟨h2,h3,h4,h5,h6,h7,h8,h9,h10,h11⟩:=hs;have:=h.prog;subst this;exact reg_step h2 (sem1_storeE h.tok (fun d hd=>by rw [h.n];exact dstOk_spec h3 d hd) h1 h4 h5 h7 h8 h9 h10) (by simpa using h6) (fun q hq=>by simp [news,Nm.eqb_iff] at hq) h11 hnext
theorem Rd.makeRow (h:Rd C P Gl T n rs v post){d t e:Nat}{x y:Operand}{inf:TI}(m:Nat)(h1:o.op = .makeSlice t x y)(h2:o.dst=some d)
 (hs:Nat.blt d n=true∧guardOf ops o L=some true∧newOk L (.loc d)=true∧sliceE T t=some e∧lkT T e=some inf∧L.ev x = .pv (.val (.int .i64 m))∧L.ev y = .pv (.val (.int .i64 m))∧inf.bytes*m≤281474976710656∧m≤9223372036854775807∧okPair ops draw done o ⟨i,[],[.loc d]⟩ [.loc d] opl=true)
 (hnext:Go C (.reg ops draw (i+1) opl (nexts o draw ⟨i,[],[.loc d]⟩ done) todo (L.app o.dst ⟨.own (.loc d),[(.loc d,some (.row e inf.size (List.replicate m inf.zero)))]⟩))):Go C (.reg ops draw i (o::opl) done todo L):=by
 obtain ⟨h3,h4,h5,h6,h7,h8,h9,h10,h11,h12⟩:=hs;obtain ⟨n1,n2⟩:=newOk_spec h5;have:=h.prog;subst this;have key:Sem1 C o L.ev [] ⟨.own (.loc d),[(.loc d,some (.row e inf.size (List.replicate m inf.zero)))]⟩:=by
  refine sem1_of (fun d' hd'=>by rw [h2] at hd';cases hd';rw [h.n];exact Nat.blt_eq.mp h3) fun L' hd F a w hev hfp hnew hi=>?_;obtain ⟨m1,m2⟩:=hnew (.loc d) (by simp [news]);have e1:=hev x (by simp [h1,Op.operands]);have e2:=hev y (by simp [h1,Op.operands]);rw [h8] at e1;rw [h9] at e2;have e1:=bool_of e1;have e2:=bool_of e2;have ok:=lkT_ok h.tok h7;obtain ⟨inf',z,j1,j2,j3,j4,j5,j6⟩:=ok.info;obtain ⟨w',r1,r2,r3⟩:=run_make_full (P:=C.P) w 0 t e inf' z inf.size (sliceE_ok h.tok h6) j1 j4 j2 .i64 .i64 m (by rw [j3];exact h10) (by simp only [maxLen];omega) (Nat.zero_le _);have hzs:z.cells.size=inf.size:=by have:=congrArg List.length j5;simp at this;omega
  have hget:∀(p:Nat) (u:Value),(madeCells z.cells (m*inf.size)).toList[p]?=some u→p<m*inf.size∧z.cells.toList[p % inf.size]?=some u:=fun p u hp=>by
   have hl:=(List.getElem?_eq_some_iff.1 hp).1;simp [size_madeCells] at hl;refine ⟨hl,?_⟩;have h0:0<inf.size:=ok.one;have hm:=Nat.mod_lt p h0;simp only [madeCells,hzs] at hp;simp [hl] at hp;have hlt:p % inf.size<z.cells.size:=(by omega);rw [getElem!_pos z.cells (p % inf.size) hlt] at hp;rw [←hp];simp [hlt]
  obtain ⟨hd'',k1,k2⟩:=inv_row hi (r:=.loc d) (by simp) m1 m2 none (.slice none 0 0) (.slice (some ⟨w.heap.size,0,none⟩) m m) (by simp) (by simp [Value.ownBlock]) (by simpa [Value.ownBlock] using r3) e inf.size (List.replicate m inf.zero) (madeCells z.cells (m*inf.size)).toList (by rw [List.length_replicate];exact r2)
   (fun k el hk=>by
     have:=List.mem_of_getElem? hk;rw [List.eq_of_mem_replicate this];exact ok.info.choose_spec.choose_spec.2.2.2.2.2) (fun k j el c u a1 a2 a3=>by
     have h5:=List.eq_of_mem_replicate (List.mem_of_getElem? a1);subst h5;obtain ⟨q1,q2⟩:=hget _ u a3;have hjl:j<inf.size:=(by have:=(List.getElem?_eq_some_iff.1 a2).1;omega);have hmod:(k*inf.size+j) % inf.size=j:=(by rw [Nat.mul_comm,Nat.mul_add_mod,Nat.mod_eq_of_lt hjl]);rw [hmod] at q2;exact zero_rep ok w F j c u a2 (by rw [←j5];exact q2)) (fun u hu=>by
     obtain ⟨p,hp⟩:=List.getElem?_of_mem hu;obtain ⟨_,q2⟩:=hget p u hp;rw [j5,List.getElem?_map] at q2;obtain ⟨c,hc,e'⟩:=Option.map_eq_some_iff.1 q2;subst e';rcases ok.zero c (List.mem_of_getElem? hc) with ⟨u,rfl,hu'⟩|⟨sz,rfl⟩
     ·exact hu'
     ·rfl)
   (fun k hk=>by simp only [Value.ownBlock,Option.some.injEq] at hk;exact .inl (by omega))
  refine ⟨_,_,hd'',F,.inl ?_,by simpa [unName] using k1,k2⟩;simp [execOp,h1,e1,e2,r1,Result.andThen]
 exact reg_step h4 key (by simp) (fun r hr=>by
  simp [news] at hr;subst hr;exact ⟨n1,n2,by simp [mayMake1,h2,h1,makes]⟩) h12 hnext
end
end Go.Abs
namespace Go.Abs
open Go.RowKit
def callSideR (n:Nat)(ops:Array Oper)(draw:Bool)(i:Nat)(o:Oper)(opl:List Oper)(done:List Trace)(L:LS)(g:FuncId)(args:List AV)(ns:List Nm)(pre:List (Option Blk))(v:AV)(post:List (Option Blk)):Prop:=match o.op with
 |.call c=>match c.callee with
  |.value x=>match L.ev x with
   |.fn (.func g') first caps=>g'=g∧guardOf ops o L=some true∧dstOk n o=true∧AV.ren.renL (inName ns) (first++evL L c.args.toList++caps)=args∧renBs (inName ns) (blksOf L ns)=pre∧allSome (blksOf L ns)=true∧nodupB ns=true∧post.length=ns.length∧
    onlyArgs ns.length v.ments=true∧onlyArgs ns.length (blksMents post)=true∧renBs (backName ns) post=blksOf L ns∧okPair ops draw done o ⟨i,ns,[]⟩ (v.ren (backName ns)).ments opl=true
   |_=>False
  |_=>False
 |_=>False
end Go.Abs
