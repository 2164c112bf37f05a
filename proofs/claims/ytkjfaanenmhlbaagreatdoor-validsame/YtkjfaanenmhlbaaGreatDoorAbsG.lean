/-
  AN ABSTRACT MEMORY FOR ONE CALL: pure values, named blocks of the call's own, read-only data; what it means of a world of the model. No program in sight.
-/
import Derived.WalkKit
import Derived.Below
import Derived.Laws.AppendOwn
import Derived.Laws.Rows
import Derived.Laws.Tables
import Derived.Laws.CopyRow
import Derived.Orders
import Derived.Scope
import Derived.Laws.MakeOwn
set_option linter.unusedVariables false
set_option linter.unusedSimpArgs false
namespace Go.Abs
open Go.RowKit
inductive Nm where
 |loc (t:Nat)
 |can (k:Nat)
 |out (i:Nat)
 |arg (i:Nat)
 deriving DecidableEq
inductive PV where
 |val (v:Value)
 |ro (sz:Nat) (es:List (List PV))
 |nilS (sz:Nat)
 |opq (Q:World→(Nat→Prop)→Value→Prop)
inductive AV where
 |pv (p:PV)
 |agg (l:List AV)
 |tup (l:List AV)
 |own (r:Nm)
 |ptr (r:Nm) (off:Nat)
 |ept (r:Nm) (sz i f:Nat)
 |rop (cs:List PV)
 |fn (f:Fn) (first caps:List AV)
 |hmap (r:Nm)
 |rom (Q:Obj→Prop)
 |opq (Q:World→(Nat→Prop)→Value→Prop)
 |any
inductive Blk where
 |box (ty:Nat) (cs:List AV)
 |row (e sz:Nat) (es:List (List PV))
 |raw (Q:Obj→Prop)
 |iter (Q:Nat→Obj→Obj→Prop)
 |gen (Q:World→(Nat→Prop)→Obj→Prop)
 |fam (ty:Nat) (l:List (Nat × (List PV→Prop)))
 |genP (Q:Nat→World→(Nat→Prop)→Obj→Prop) (r:Nm)
inductive Hd where
 |dead
 |box (k:Nat)
 |row (v:Value)
 |many (ks:List Nat)
def Hd.owns:Hd→Nat→Prop
 |.dead,_=>False
 |.box k,j=>k=j
 |.row v,j=>v.ownBlock=some j
 |.many ks,j=>j∈ks
def AV.ments:AV→List Nm
 |.pv _=>[]
 |.agg l=>mentsL l
 |.tup l=>mentsL l
 |.own r=>[r]
 |.ptr r _=>[r]
 |.ept r _ _ _=>[r]
 |.rop _=>[]
 |.fn _ a b=>mentsL a++mentsL b
 |.hmap r=>[r]
 |.rom _=>[]
 |.opq _=>[]
 |.any=>[]
where mentsL:List AV→List Nm
 |[]=>[]
 |x::l=>x.ments++mentsL l
def Blk.ments:Blk→List Nm
 |.box _ cs=>AV.ments.mentsL cs
 |.row ..=>[]
 |.raw _=>[]
 |.iter _=>[]
 |.gen _=>[]
 |.fam ..=>[]
 |.genP _ r=>[r]
inductive RepP (w:World) (F:Nat→Prop):PV→Value→Prop where
 |val (v:Value) (h1:v.oneCell'=true):RepP w F (.val v) v
 |ro (sz:Nat) (es:List (List PV)) (A:Option Addr) (cap:Nat) (u:Nat→Nat→Value) (hA:A=none→cap=0) (hc:es.length≤cap) (hm:es.length≤9223372036854775807)
   (hl:∀(i:Nat) (e:List PV),es[i]?=some e→e.length=sz)
   (ha:es≠[]→∃ad:Addr,A=some ad∧ad.spot=none∧F ad.block∧∀(i j:Nat) (e:List PV) (c:PV),es[i]?=some e→e[j]?=some c→w.cell? (ad.add (i*sz+j))=some (u i j))
   (hr:∀(i j:Nat) (e:List PV) (c:PV),es[i]?=some e→e[j]?=some c→RepP w F c (u i j)):RepP w F (.ro sz es) (.slice A es.length cap)
 |nilS (sz:Nat):RepP w F (.nilS sz) (.slice none 0 0)
 |opq (Q:World→(Nat→Prop)→Value→Prop) (v:Value) (h1:v.oneCell'=true) (h:∀(w':World) (F':Nat→Prop),(∀k,F k→w'.heap[k]?=w.heap[k]?)→(∀k,F k→F' k)→Q w' F' v):RepP w F (.opq Q) v
theorem RepP.one {w:World}{F:Nat→Prop}{p:PV}{v:Value}(h:RepP w F p v):v.oneCell'=true:=by
 cases h with
 |val _ h1=>exact h1
 |ro=>rfl
 |nilS=>rfl
 |opq _ _ h1=>exact h1
theorem RepP.mono {w w':World}{F F':Nat→Prop}(hw:∀k,F k→w'.heap[k]?=w.heap[k]?)(hF:∀k,F k→F' k){p:PV}{v:Value}(h:RepP w F p v):RepP w' F' p v:=by
 induction h with
 |val v h1=>exact .val v h1
 |nilS sz=>exact .nilS sz
 |opq Q v h1 h=>exact .opq Q v h1 fun w2 F2 e1 e2=>h w2 F2 (fun k hk=>(e1 k (hF k hk)).trans (hw k hk)) (fun k hk=>e2 k (hF k hk))
 |ro sz es A cap u hA hc hm hl ha hr ih=>
  refine .ro sz es A cap u hA hc hm hl (fun hne=>?_) ih;obtain ⟨ad,e1,e2,e3,e4⟩:=ha hne;refine ⟨ad,e1,e2,hF _ e3,fun i j e c h1 h2=>?_⟩;rw [←e4 i j e c h1 h2];refine World.cell?_of_block (w:=w) ?_;have:(ad.add (i*sz+j)).block=ad.block:=by unfold Addr.add;split<;>rfl
  rw [this];exact hw _ e3
inductive Rep (w:World) (F:Nat→Prop) (hd:Nm→Hd):AV→Value→Prop where
 |pv (p:PV) (v:Value) (h:RepP w F p v):Rep w F hd (.pv p) v
 |agg (l:List AV) (cs:List Value) (hl:cs.length=l.length) (h:∀(j:Nat) (c:AV) (v:Value),l[j]?=some c→cs[j]?=some v→Rep w F hd c v) (h1:∀v∈cs,v.oneCell'=true):Rep w F hd (.agg l) (.agg cs.toArray)
 |tup (l:List AV) (cs:List Value) (hl:cs.length=l.length) (h:∀(j:Nat) (c:AV) (v:Value),l[j]?=some c→cs[j]?=some v→Rep w F hd c v):Rep w F hd (.tup l) (.tuple cs.toArray)
 |own (r:Nm) (v:Value) (h1:v.oneCell'=true) (h:∀u,hd r = .row u→v=u):Rep w F hd (.own r) v
 |ptr (r:Nm) (off:Nat) (v:Value) (h1:v.oneCell'=true) (h:∀k,hd r = .box k→v = .pointer (some ⟨k,off,none⟩)):Rep w F hd (.ptr r off) v
 |ept (r:Nm) (sz i f:Nat) (v:Value) (h1:v.oneCell'=true) (h:∀g n c,hd r = .row (.slice (some ⟨g,0,none⟩) n c)→v = .pointer (some ⟨g,i*sz+f,none⟩)):Rep w F hd (.ept r sz i f) v
 |rop (cs:List PV) (ad:Addr) (u:Nat→Value) (hs:ad.spot=none) (hF:F ad.block) (hc:∀(j:Nat) (c:PV),cs[j]?=some c→w.cell? (ad.add j)=some (u j)) (hr:∀(j:Nat) (c:PV),cs[j]?=some c→RepP w F c (u j)):Rep w F hd (.rop cs) (.pointer (some ad))
 |fn (f:Fn) (a b:List AV) (va vb:List Value) (ha:va.length=a.length) (hb:vb.length=b.length) (h:∀(j:Nat) (c:AV) (v:Value),a[j]?=some c→va[j]?=some v→Rep w F hd c v) (h':∀(j:Nat) (c:AV) (v:Value),b[j]?=some c→vb[j]?=some v→Rep w F hd c v):Rep w F hd (.fn f a b) (.func f va.toArray vb.toArray)
 |hmap (r:Nm) (v:Value) (h1:v.oneCell'=true) (h:∀k,hd r = .box k→v = .map (some k)):Rep w F hd (.hmap r) v
 |rom (Q:Obj→Prop) (k:Nat) (o:Obj) (hF:F k) (ho:w.heap[k]?=some o) (hq:Q o):Rep w F hd (.rom Q) (.map (some k))
 |opq (Q:World→(Nat→Prop)→Value→Prop) (v:Value) (h1:v.oneCell'=true) (h:∀(w':World) (F':Nat→Prop),(∀k,F k→w'.heap[k]?=w.heap[k]?)→(∀k,F k→F' k)→Q w' F' v):Rep w F hd (.opq Q) v
 |any (v:Value):Rep w F hd .any v
theorem mem_mentsL {r:Nm}{x:AV}:∀ {l:List AV} {j:Nat},l[j]?=some x→r∈x.ments→r∈AV.ments.mentsL l
 |[],_,h,_=>by simp at h
 |y::l,0,h,hr=>by simp at h;subst h;simp [AV.ments.mentsL,hr]
 |y::l,j+1,h,hr=>by simp at h;simp [AV.ments.mentsL,mem_mentsL h hr]
theorem Rep.mono {w w':World}{F F':Nat→Prop}{hd hd':Nm→Hd}(hw:∀k,F k→w'.heap[k]?=w.heap[k]?)(hF:∀k,F k→F' k){x:AV}{v:Value}(h:Rep w F hd x v)
 (hh:∀r,r∈x.ments→hd' r=hd r∨hd' r = .dead):Rep w' F' hd' x v:=by
 induction h with
 |pv p v h=>exact .pv p v (h.mono hw hF)
 |agg l cs hl h h1 ih=>exact .agg l cs hl (fun j c v hj hv=>ih j c v hj hv fun r hr=>hh r (by simp only [AV.ments];exact mem_mentsL hj hr)) h1
 |tup l cs hl h ih=>exact .tup l cs hl (fun j c v hj hv=>ih j c v hj hv fun r hr=>hh r (by simp only [AV.ments];exact mem_mentsL hj hr))
 |own r v h1 h=>
  refine .own r v h1 fun u hu=>?_;rcases hh r (by simp [AV.ments]) with e|e
  ·exact h u (e ▸ hu)
  ·rw [e] at hu;cases hu
 |ptr r off v h1 h=>
  refine .ptr r off v h1 fun u hu=>?_;rcases hh r (by simp [AV.ments]) with e|e
  ·exact h u (e ▸ hu)
  ·rw [e] at hu;cases hu
 |ept r sz i f v h1 h=>
  refine .ept r sz i f v h1 fun g n c hu=>?_;rcases hh r (by simp [AV.ments]) with e|e
  ·exact h g n c (e ▸ hu)
  ·rw [e] at hu;cases hu
 |rop cs ad u hs h1 hc hr=>
  refine .rop cs ad u hs (hF _ h1) (fun j c hj=>?_) (fun j c hj=>(hr j c hj).mono hw hF);rw [←hc j c hj];refine World.cell?_of_block (w:=w) ?_;have:(ad.add j).block=ad.block:=by unfold Addr.add;split<;>rfl
  rw [this];exact hw _ h1
 |fn f a b va vb ha hb h h' ih ih'=>
  exact .fn f a b va vb ha hb (fun j c v hj hv=>ih j c v hj hv fun r hr=>hh r (by simp only [AV.ments,List.mem_append];exact .inl (mem_mentsL hj hr)))
   (fun j c v hj hv=>ih' j c v hj hv fun r hr=>hh r (by simp only [AV.ments,List.mem_append];exact .inr (mem_mentsL hj hr)))
 |hmap r v h1 h=>
  refine .hmap r v h1 fun u hu=>?_;rcases hh r (by simp [AV.ments]) with e|e
  ·exact h u (e ▸ hu)
  ·rw [e] at hu;cases hu
 |rom Q k o h1 ho hq=>exact .rom Q k o (hF _ h1) ((hw _ h1).trans ho) hq
 |opq Q v h1 h=>exact .opq Q v h1 fun w2 F2 e1 e2=>h w2 F2 (fun k hk=>(e1 k (hF k hk)).trans (hw k hk)) (fun k hk=>e2 k (hF k hk))
 |any v=>exact .any v
structure LS where
 σ:List (Nat × AV)
 H:List (Nm × Option Blk)
def lkS:List (Nat × AV)→Nat→AV
 |[],_=>.any
 |(k,v)::l,t=>if k=t then v else lkS l t
def Nm.eqb:Nm→Nm→Bool
 |.loc a,.loc b | .can a,.can b | .out a,.out b | .arg a,.arg b=>Nat.beq a b
 |_,_=>false
theorem Nm.eqb_iff (a b:Nm):a.eqb b=true↔a=b:=by cases a<;>cases b<;>simp [Nm.eqb,Nat.beq_eq]
def lkH:List (Nm × Option Blk)→Nm→Option Blk
 |[],_=>none
 |(k,v)::l,r=>if k.eqb r=true then v else lkH l r
def setS:List (Nat × AV)→Nat→AV→List (Nat × AV)
 |[],t,v=>[(t,v)]
 |(k,u)::l,t,v=>if k=t then (t,v)::l else (k,u)::setS l t v
def setH:List (Nm × Option Blk)→Nm→Option Blk→List (Nm × Option Blk)
 |[],r,b=>[(r,b)]
 |(k,u)::l,r,b=>if k.eqb r=true then (r,b)::l else (k,u)::setH l r b
theorem lkS_setS (l:List (Nat × AV))(t:Nat)(v:AV)(s:Nat):lkS (setS l t v) s=if s=t then v else lkS l s:=by
 induction l with
 |nil=>
  by_cases h:t=s
  ·subst h;simp [setS,lkS]
  ·have h':¬s=t:=fun e=>h e.symm;simp [setS,lkS,h,h']
 |cons x l ih=>
  obtain ⟨k,u⟩:=x;by_cases h:k=t
  ·subst h;by_cases hs:k=s
   ·subst hs;simp [setS,lkS]
   ·have h':¬s=k:=fun e=>hs e.symm;simp [setS,lkS,hs,h']
  ·simp only [setS,lkS,h,if_false,ih];by_cases hs:k=s
   ·subst hs;simp [h]
   ·simp [hs]
theorem lkH_setH (l:List (Nm × Option Blk))(t:Nm)(v:Option Blk)(s:Nm):lkH (setH l t v) s=if s=t then v else lkH l s:=by
 induction l with
 |nil=>
  by_cases h:t=s
  ·subst h;simp [setH,lkH,Nm.eqb_iff]
  ·have h':¬s=t:=fun e=>h e.symm;simp [setH,lkH,Nm.eqb_iff,h,h']
 |cons x l ih=>
  obtain ⟨k,u⟩:=x;by_cases h:k=t
  ·subst h;by_cases hs:k=s
   ·subst hs;simp [setH,lkH,Nm.eqb_iff]
   ·have h':¬s=k:=fun e=>hs e.symm;simp [setH,lkH,Nm.eqb_iff,hs,h']
  ·simp only [setH,lkH,Nm.eqb_iff,h,if_false,ih];by_cases hs:k=s
   ·subst hs;simp [h]
   ·simp [hs]
def LS.get (L:LS)(t:Nat):AV:=lkS L.σ t
def LS.blk (L:LS)(r:Nm):Option Blk:=lkH L.H r
def LS.put (L:LS)(d:Option Nat)(v:AV):LS:=match d with
 |some d=>{ L with σ:=setS L.σ d v }
 |none=>L
def LS.upd (L:LS):List (Nm × Option Blk)→LS
 |[]=>L
 |(r,b)::ups=>LS.upd { L with H:=setH L.H r b } ups
def LS.Fresh (L:LS)(r:Nm):Prop:=(∀t,r∉(L.get t).ments)∧∀s b,L.blk s=some b→r∉b.ments
def notIn (r:Nm):List Nm→Bool
 |[]=>true
 |x::l=>if x.eqb r=true then false else notIn r l
theorem notIn_iff (r:Nm)(l:List Nm):notIn r l=true↔r∉l:=by
 induction l with
 |nil=>simp [notIn]
 |cons x l ih=>
  by_cases h:x=r
  ·subst h;simp [notIn,Nm.eqb_iff]
  ·have h':¬r=x:=fun e=>h e.symm;simp [notIn,Nm.eqb_iff,h,ih,h']
def LS.freshB (L:LS)(r:Nm):Bool:=go L.σ&&goH L.H
where
 go:List (Nat × AV)→Bool
  |[]=>true
  |(_,v)::l=>notIn r v.ments&&go l
 goH:List (Nm × Option Blk)→Bool
  |[]=>true
  |(_,some b)::l=>notIn r b.ments&&goH l
  |(_,none)::l=>goH l
theorem LS.fresh_of {L:LS}{r:Nm}(h:L.freshB r=true):L.Fresh r:=by
 simp only [LS.freshB,Bool.and_eq_true] at h;obtain ⟨h1,h2⟩:=h;constructor
 ·intro t;unfold LS.get;generalize L.σ=l at h1;induction l with
  |nil=>simp [lkS,AV.ments]
  |cons x l ih=>
   obtain ⟨k,u⟩:=x;simp only [LS.freshB.go,Bool.and_eq_true,notIn_iff] at h1;simp only [lkS];split
   ·exact h1.1
   ·exact ih h1.2
 ·intro s b hb;unfold LS.blk at hb;generalize L.H=l at h2 hb;induction l with
  |nil=>simp [lkH] at hb
  |cons x l ih=>
   obtain ⟨k,u⟩:=x;simp only [lkH] at hb;cases u with
   |none=>
    simp only [LS.freshB.goH] at h2;split at hb
    ·cases hb
    ·exact ih h2 hb
   |some c=>
    simp only [LS.freshB.goH,Bool.and_eq_true,notIn_iff] at h2;split at hb
    ·cases hb;exact h2.1
    ·exact ih h2.2 hb
structure Granted where
 p:World→(Nat→Prop)→Prop
 mono:∀ {w w':World} {F F':Nat→Prop},p w F→(∀k,F k→w'.heap[k]?=w.heap[k]?)→(∀k,F k→F' k)→p w' F'
structure Ctx where
 P:Program
 f:FuncId
 fn:Func
 w0:World
 F0:Nat→Prop
 hd0:Nm→Hd
 Gl:Granted
 R:Ending→World→Prop
def Ctx.may (C:Ctx)(k:Nat):Prop:=∃r,(C.hd0 r).owns k
def HoldB (w:World)(F:Nat→Prop)(hd:Nm→Hd)(r:Nm):Option Blk→Prop
 |none=>hd r = .dead
 |some (.box ty cs)=>∃k arr,hd r = .box k∧w.heap[k]?=some (.cells arr ty (0,0))∧arr.size=cs.length∧(∀(j:Nat) (c:AV) (v:Value),cs[j]?=some c→arr[j]?=some v→Rep w F hd c v)∧∀v∈arr.toList,v.oneCell'=true
 |some (.row e sz es)=>∃v cells,hd r = .row v∧w.ownsRow 0 e sz v es.length cells∧(∀(i:Nat) (el:List PV),es[i]?=some el→el.length=sz)∧(∀(i j:Nat) (el:List PV) (c:PV) (u:Value),es[i]?=some el→el[j]?=some c→cells[i*sz+j]?=some u→RepP w F c u)∧∀v∈cells,v.oneCell'=true
 |some (.raw Q)=>∃k o,hd r = .box k∧w.heap[k]?=some o∧Q o
 |some (.iter Q)=>∃k o b ob,hd r = .box k∧w.heap[k]?=some o∧F b∧w.heap[b]?=some ob∧Q b ob o
 |some (.gen Q)=>∃k o,hd r = .box k∧w.heap[k]?=some o∧∀(w':World) (F':Nat→Prop),(∀k,F k→w'.heap[k]?=w.heap[k]?)→(∀k,F k→F' k)→Q w' F' o
 |some (.fam ty l)=>hd r = .many (l.map (·.1))∧∀(k:Nat) (p:List PV→Prop),(k,p)∈l→∃cs arr,p cs∧w.heap[k]?=some (.cells arr ty (0,0))∧arr.size=cs.length∧(∀(j:Nat) (c:PV) (v:Value),cs[j]?=some c→arr[j]?=some v→RepP w F c v)∧∀v∈arr.toList,v.oneCell'=true
 |some (.genP Q s)=>∃k o z,hd r = .box k∧w.heap[k]?=some o∧(∀(w':World) (F':Nat→Prop),(∀k,F k→w'.heap[k]?=w.heap[k]?)→(∀k,F k→F' k)→Q z w' F' o)∧∀j,hd s = .box j→j=z
structure Inv (C:Ctx) (L:LS) (hd:Nm→Hd) (F:Nat→Prop) (a:Act) (w:World):Prop where
 slots:∀t,Rep w F hd (L.get t) (a.tmps.getD t undef)
 blocks:∀r,HoldB w F hd r (L.blk r)
 sep:∀r s k,r≠s→(hd r).owns k→¬(hd s).owns k
 mine:∀r k,(hd r).owns k→¬F k∧k<w.heap.size∧(C.w0.heap.size≤k∨C.may k)
 fin:∀k,F k→k<w.heap.size∧(C.F0 k∨C.w0.heap.size≤k∨C.may k)
 more:∀k,C.F0 k→F k
 kept:∀i,hd (.arg i)=C.hd0 (.arg i)∨hd (.arg i) = .dead
 gl:C.Gl.p w F
 os:w.os=C.w0.os
 tape:w.tape=C.w0.tape
 output:w.output=C.w0.output
 size:C.w0.heap.size≤w.heap.size
 old:∀k,k<C.w0.heap.size→¬C.may k→w.heap[k]?=C.w0.heap[k]?
 ntmps:a.tmps.size=C.fn.ntmps
 defers:a.defers = []
theorem HoldB.mono {w w':World}{F F':Nat→Prop}{hd hd':Nm→Hd}{r:Nm}{b:Option Blk}(h:HoldB w F hd r b)(hF:∀k,F k→w'.heap[k]?=w.heap[k]?)(hFF:∀k,F k→F' k)(hr:hd' r=hd r)(hk:∀k,(hd r).owns k→w'.heap[k]?=w.heap[k]?)
 (hm:∀c,b=some c→∀s,s∈c.ments→hd' s=hd s∨hd' s = .dead):HoldB w' F' hd' r b:=by
 cases b with
 |none=>exact hr.trans h
 |some b=>
  cases b with
  |box ty cs=>
   obtain ⟨k,arr,h1,h2,h3,h4,h5⟩:=h;refine ⟨k,arr,hr.trans h1,(hk k (by rw [h1];exact rfl)).trans h2,h3,fun j c v hj hv=>(h4 j c v hj hv).mono hF hFF fun s hs=>hm _ rfl s ?_,h5⟩;simp only [Blk.ments];exact mem_mentsL hj hs
  |row e sz es=>
   obtain ⟨v,cells,h1,h2,h3,h4,h5⟩:=h;refine ⟨v,cells,hr.trans h1,?_,h3,fun i j el c u a1 a2 a3=>(h4 i j el c u a1 a2 a3).mono hF hFF,h5⟩;obtain ⟨q1,q2⟩:=h2;refine ⟨q1,q2.imp id ?_⟩
   rintro ⟨g,cap,cur,rfl,q3,q4,q5⟩
   exact ⟨g,cap,cur,rfl,q3,(hk g (by rw [h1];exact rfl)).trans q4,q5⟩
  |raw Q=>
   obtain ⟨k,o,h1,h2,h4⟩:=h;exact ⟨k,o,hr.trans h1,(hk k (by rw [h1];exact rfl)).trans h2,h4⟩
  |iter Q=>
   obtain ⟨k,o,b,ob,h1,h2,h3,h4,h5⟩:=h;exact ⟨k,o,b,ob,hr.trans h1,(hk k (by rw [h1];exact rfl)).trans h2,hFF _ h3,(hF _ h3).trans h4,h5⟩
  |gen Q=>
   obtain ⟨k,o,h1,h2,h4⟩:=h;exact ⟨k,o,hr.trans h1,(hk k (by rw [h1];exact rfl)).trans h2,fun w2 F2 e1 e2=>h4 w2 F2 (fun k hk=>(e1 k (hFF k hk)).trans (hF k hk)) (fun k hk=>e2 k (hFF k hk))⟩
  |fam ty l=>
   obtain ⟨h1,h2⟩:=h;refine ⟨hr.trans h1,fun k p hp=>?_⟩;obtain ⟨cs,arr,q1,q2,q3,q4,q5⟩:=h2 k p hp;exact ⟨cs,arr,q1,(hk k (by rw [h1];exact List.mem_map.2 ⟨_,hp,rfl⟩)).trans q2,q3,fun j c v a1 a2=>(q4 j c v a1 a2).mono hF hFF,q5⟩
  |genP Q s=>
   obtain ⟨k,o,z,h1,h2,h4,h5⟩:=h;refine ⟨k,o,z,hr.trans h1,(hk k (by rw [h1];exact rfl)).trans h2,fun w2 F2 e1 e2=>h4 w2 F2 (fun k hk=>(e1 k (hFF k hk)).trans (hF k hk)) (fun k hk=>e2 k (hFF k hk)),fun j hj=>?_⟩;rcases hm _ rfl s (by simp [Blk.ments]) with e|e
   ·exact h5 j (e ▸ hj)
   ·rw [e] at hj;cases hj
end Go.Abs
namespace Go.Abs
open Go.RowKit
def LS.ev (L:LS):Operand→AV
 |.tmp t=>L.get t
 |.const v=>match v with
  |.slice none 0 0=>.pv (.nilS 0)
  |.agg cs=>if cs.toList.all (fun c=>c.oneCell')=true then .agg (cs.toList.map fun c=>.pv (.val c)) else .any
  |.tuple _=>.any
  |v=>.pv (.val v)
 |.global _=>.any
 |.func f=>.fn (.func f) [] []
structure Actn where
 v:AV
 ups:List (Nm × Option Blk)
def LS.app (L:LS)(dst:Option Nat)(A:Actn):LS:=(L.upd A.ups).put dst A.v
def news (fp:List (Nm × Blk))(ups:List (Nm × Option Blk)):List Nm:=(ups.map (·.1)).filter fun r=>!(fp.any fun p=>p.1.eqb r)
def Sem1 (C:Ctx)(o:Oper)(ev:Operand→AV)(fp:List (Nm × Blk))(A:Actn):Prop:=
 ∀(L:LS) (hd:Nm→Hd) (F:Nat→Prop) (a:Act) (w:World),(∀x∈o.op.operands.toList,L.ev x=ev x)→(∀p∈fp,L.blk p.1=some p.2)→
  (∀r∈news fp A.ups,L.blk r=none∧L.Fresh r)→Inv C L hd F a w→
  ∀(K:Act→World→Prop) (Q:Exit→Act→World→Prop),(∀a' w' hd' F',Inv C (L.app o.dst A) hd' F' a' w'→K a' w')→o.wp C.P a w K Q
def guardOf (ops:Array Oper)(o:Oper)(L:LS):Option Bool:=
 match o.guard with
 |none=>some true
 |some (j,want)=>match (ops[j]?).bind (·.dst) with
  |some d=>match L.get d with
   |.pv (.val (.bool b))=>some (b == want)
   |.tup []=>some false
   |_=>none
  |none=>none
structure Trace where
 i:Nat
 rd:List Nm
 wr:List Nm
def disjoint:List Nm→List Nm→Bool
 |[],_=>true
 |x::l,b=>notIn x b&&disjoint l b
theorem disjoint_spec {a b:List Nm}(h:disjoint a b=true):∀r∈a,r∉b:=by
 induction a with
 |nil=>simp
 |cons x l ih=>
  simp only [disjoint,Bool.and_eq_true,notIn_iff] at h;intro r hr;rcases List.mem_cons.1 hr with rfl|hr
  ·exact h.1
  ·exact ih h.2 r hr
def makes:Op→Bool
 |.call c=>match c.callee with | .builtin .append=>true | .value _=>true|_=>false
 |.buildSlice .. | .makeSlice .. | .alloc .. | .box .. | .makeMap .. | .range ..=>true
 |_=>false
def mayMake1 (o:Oper):List Nm:=match o.dst with
 |some d=>if makes o.op=true then [.loc d] else []
 |none=>[]
def mayMake (ops:Array Oper):List Nat→List Nm
 |[]=>[]
 |i::l=>match ops[i]? with
  |some o=>mayMake1 o++mayMake ops l
  |none=>mayMake ops l
theorem mayMake_mem {ops:Array Oper}{l:List Nat}{i:Nat}{o:Oper}(hi:i∈l)(ho:ops[i]?=some o){r:Nm}(hr:r∈mayMake1 o):r∈mayMake ops l:=by
 induction l with
 |nil=>cases hi
 |cons k l ih=>
  simp only [mayMake];rcases List.mem_cons.1 hi with rfl|hi
  ·simp [ho,hr]
  ·cases ops[k]?<;>simp [ih hi]
def upsMents:List (Nm × Option Blk)→List Nm
 |[]=>[]
 |(_,some b)::l=>b.ments++upsMents l
 |(_,none)::l=>upsMents l
def boundB (o:Oper)(k:Nat):Bool:=o.after.any fun e=>e.on == k&&Region.binds .any e
def boundC (ops:Array Oper)(o:Oper)(k:Nat):Bool:=if boundB o k=true then true else o.after.any fun e=>Region.binds .any e&&match ops[e.on]? with
 |some p=>boundB p k
 |none=>false
def boundN (ops:Array Oper):Nat→Oper→Nat→Bool
 |0,o,k=>boundB o k
 |n+1,o,k=>if boundB o k=true then true else o.after.any fun e=>Region.binds .any e&&match ops[e.on]? with
  |some p=>boundN ops n p k
  |none=>false
theorem boundB_N {ops:Array Oper}{o:Oper}{k:Nat}(h:boundB o k=true):∀n,boundN ops n o k=true
 |0=>h
 |n+1=>by unfold boundN;rw [if_pos h]
theorem boundC_N {ops:Array Oper}{o:Oper}{k:Nat}(h:boundC ops o k=true):boundN ops 5 o k=true:=by
 by_cases hb:boundB o k=true
 ·exact boundB_N hb 5
 ·show boundN ops (4+1) o k=true;unfold boundC at h;unfold boundN;rw [if_neg hb] at h ⊢;rw [←Array.any_toList,List.any_eq_true] at h ⊢;obtain ⟨e,h1,h2⟩:=h;refine ⟨e,h1,?_⟩;rw [Bool.and_eq_true] at h2 ⊢;refine ⟨h2.1,?_⟩;have h3:=h2.2;split at h3
  ·rename_i q hq;exact boundB_N h3 4
  ·cases h3
def pairOk (ops:Array Oper)(x:Trace)(o:Oper)(y:Trace)(vm:List Nm):Bool:=
 if ((o.after.any fun e=>e.on == x.i&&Region.binds .any e) || match ops[x.i]? with
 |some p=>Oper.apart ops p o&&disjoint x.wr (y.rd++y.wr)&&disjoint y.wr x.rd&&disjoint (mayMake1 p) vm
 |none=>false)=true then true else boundN ops 5 o x.i
def Step1 (C:Ctx)(ops:Array Oper)(i:Nat)(o:Oper)(L L1:LS)(y:Trace)(vm:List Nm):Prop:=
 (guardOf ops o L=some true∧∃fp A,Sem1 C o L.ev fp A∧(∀p∈fp,L.blk p.1=some p.2)∧(∀r∈news fp A.ups,L.blk r=none∧L.Fresh r∧r∈mayMake1 o)∧
   L1=L.app o.dst A∧y=⟨i,fp.map (·.1),A.ups.map (·.1)⟩∧vm=A.v.ments++upsMents A.ups)∨
 (guardOf ops o L=some false∧L1=L.put o.dst (.tup [])∧y=⟨i,[],[]⟩∧vm = [])
def StepN (C:Ctx)(ops:Array Oper)(o:Oper)(L:LS)(S:LS→Prop):Prop:=
 guardOf ops o L=some true∧∀hd F a w,Inv C L hd F a w→∀(K:Act→World→Prop) (Q:Exit→Act→World→Prop),(∀L' a' w' hd' F',S L'→Inv C L' hd' F' a' w'→K a' w')→o.wp C.P a w K Q
def RT (C:Ctx)(ops:Array Oper)(draw:Bool):List Nat→List Trace→LS→(LS→Prop)→Prop
 |[],_,L,K=>K L
 |i::rest,done,L,K=>(∃o L1 y vm,ops[i]?=some o∧Step1 C ops i o L L1 y vm∧
   (draw=true→(done.all fun x=>pairOk ops x o y vm)=true∧disjoint (mayMake ops rest) vm=true)∧RT C ops draw rest (y::done) L1 K)∨
   (draw=false∧∃o S,ops[i]?=some o∧StepN C ops o L S∧∀L1,S L1→RT C ops draw rest [] L1 K)
theorem rt_true {C:Ctx}{ops:Array Oper}{i:Nat}{rest:List Nat}{done:List Trace}{L:LS}{K:LS→Prop}:RT C ops true (i::rest) done L K↔∃o L1 y vm,ops[i]?=some o∧Step1 C ops i o L L1 y vm∧
 ((done.all fun x=>pairOk ops x o y vm)=true∧disjoint (mayMake ops rest) vm=true)∧RT C ops true rest (y::done) L1 K:=by
 simp [RT]
theorem upd_blk (ups:List (Nm × Option Blk)):∀(L:LS),(L.upd ups).σ=L.σ:=by
 induction ups with
 |nil=>intro L;rfl
 |cons x l ih=>intro L;obtain ⟨r,b⟩:=x;simp only [LS.upd,ih]
theorem Inv.put_undef {C:Ctx}{L:LS}{hd:Nm→Hd}{F:Nat→Prop}{a:Act}{w:World}(h:Inv C L hd F a w)(d:Option Nat):Inv C (L.put d (.tup [])) hd F (a.put d undef) w:=by
 cases d with
 |none=>exact h
 |some d=>
  refine { h with slots:=fun t=>?_,blocks:=h.blocks,ntmps:=by simp [Act.put,h.ntmps],defers:=h.defers };simp only [LS.put,LS.get,lkS_setS];split
  ·rename_i e;subst e;have:(a.put (some t) undef).tmps.getD t undef=undef:=by
    simp only [Act.put,Array.getD_eq_getD_getElem?];by_cases ht:t<a.tmps.size
    ·simp [ht]
    ·rw [Array.getElem?_eq_none (by simpa using ht)];rfl
   rw [this];exact .tup [] [] rfl (fun j c v h=>by simp at h)
  ·rename_i hne;have:=h.slots t;simp only [LS.get] at this;simpa [Act.put,Array.getD_eq_getD_getElem?,Array.getElem?_setIfInBounds_ne (fun e:d=t=>hne e.symm)] using this
theorem Inv.put {C:Ctx}{L:LS}{hd:Nm→Hd}{F:Nat→Prop}{a:Act}{w:World}(h:Inv C L hd F a w)(d:Option Nat){x:AV}{v:Value}(hx:Rep w F hd x v)(hd':∀k,d=some k→k<C.fn.ntmps):Inv C (L.put d x) hd F (a.put d v) w:=by
 cases d with
 |none=>exact h
 |some d=>
  refine { h with slots:=fun t=>?_,blocks:=h.blocks,ntmps:=by simp [Act.put,h.ntmps],defers:=h.defers };simp only [LS.put,LS.get,lkS_setS];split
  ·rename_i he;subst he;have:t<a.tmps.size:=(by rw [h.ntmps];exact hd' t rfl);simpa [Act.put,Array.getD_eq_getD_getElem?,this] using hx
  ·rename_i hne;have:=h.slots t;simp only [LS.get] at this;simpa [Act.put,Array.getD_eq_getD_getElem?,Array.getElem?_setIfInBounds_ne (fun e:d=t=>hne e.symm)] using this
theorem guard_true {C:Ctx}{ops:Array Oper}{o:Oper}{L:LS}{hd:Nm→Hd}{F:Nat→Prop}{a:Act}{w:World}(h:Inv C L hd F a w){b:Bool}(hg:guardOf ops o L=some b):Region.wanted o (yielded ops a.tmps)=b:=by
 unfold guardOf at hg;unfold Region.wanted;cases hq:o.guard with
 |none=>simp [hq] at hg ⊢;exact hg.symm ▸ rfl
 |some x=>
  obtain ⟨j,want⟩:=x;simp only [hq] at hg ⊢;cases hj:(ops[j]?).bind (·.dst) with
  |none=>simp [hj] at hg
  |some d=>
   simp only [hj] at hg;have hs:=h.slots d;generalize L.get d=x at hg hs;cases x with
   |pv p=>
    cases p with
    |val v=>
     cases v<;>simp at hg
     rename_i c;cases hs with
     |pv _ _ hp=>
      generalize hz:a.tmps.getD d undef=z at hp;cases hp with
      |val=>
       cases ho:ops[j]? with
       |none=>simp [ho] at hj
       |some p=>
        simp only [ho,Option.bind_some] at hj;have hz':a.tmps[d]?=some (.bool c):=by
         rw [Array.getD_eq_getD_getElem?] at hz;cases ht:a.tmps[d]? with
         |none=>rw [ht] at hz;cases hz
         |some y=>rw [ht] at hz;exact congrArg some hz
        have:yielded ops a.tmps j=some c:=(by simp [yielded,ho,hj,hz']);rw [this];subst hg;cases c<;>cases want<;>rfl
    |ro=>simp at hg
    |nilS=>simp at hg
    |opq=>simp at hg
   |tup l=>
    cases l with
    |cons=>simp at hg
    |nil=>
     simp only [Option.some.injEq] at hg;subst hg;generalize hz:a.tmps.getD d undef=z at hs;cases hs with
     |tup _ cs hl _=>
      have hcs:cs = []:=List.eq_nil_of_length_eq_zero hl;subst hcs;have:yielded ops a.tmps j=none:=by
       unfold yielded;cases ho:ops[j]? with
       |none=>rfl
       |some p=>
        rw [ho] at hj;simp only [Option.bind_some] at hj;simp only [Option.bind_some,hj];rw [Array.getD_eq_getD_getElem?] at hz;cases ht:a.tmps[d]? with
        |none=>rfl
        |some y=>rw [ht] at hz;simp only [Option.getD_some] at hz;subst hz;rfl
      rw [this];rfl
   |_=>simp at hg
theorem step1_wp {C:Ctx}{ops:Array Oper}{i:Nat}{o:Oper}{L L1:LS}{y:Trace}{vm:List Nm}(ho:ops[i]?=some o)(h:Step1 C ops i o L L1 y vm){hd:Nm→Hd}{F:Nat→Prop}{a:Act}{w:World}(hi:Inv C L hd F a w)
 (K:Act→World→Prop) (Q:Exit→Act→World→Prop) (hK:∀hd' F' a' w',Inv C L1 hd' F' a' w'→K a' w') :
 if Region.wanted o (yielded ops a.tmps) then o.wp C.P a w K Q∨(o.asks C.P a w∧LetsOut Q) else K (a.put o.dst undef) w:=by
 rcases h with ⟨hg,fp,A,h1,h2,h3,rfl,_,_⟩|⟨hg,rfl,_,_⟩
 ·rw [guard_true hi hg];exact .inl (h1 L hd F a w (fun _ _=>rfl) h2 (fun r hr=>⟨(h3 r hr).1,(h3 r hr).2.1⟩) hi K Q fun a' w' hd' F' hi'=>hK hd' F' a' w' hi')
 ·rw [guard_true hi hg];exact hK hd F _ w (hi.put_undef o.dst)
theorem rt_text {C:Ctx}{ops:Array Oper}{draw:Bool}{Q:Exit→Act→World→Prop}:∀(l:List Nat) (done:List Trace) (L:LS) (K:LS→Prop) (hd:Nm→Hd) (F:Nat→Prop) (a:Act) (w:World),
 RT C ops draw l done L K→Inv C L hd F a w→(∀L' hd' F' a' w',K L'→Inv C L' hd' F' a' w'→Q .normal a' w')→wpOps C.P ops Q l a w
 |[],done,L,K,hd,F,a,w,h,hi,hq=>by simpa [wpOps] using hq L hd F a w h hi
 |i::rest,done,L,K,hd,F,a,w,h,hi,hq=>by
  rcases h with ⟨o,L1,y,vm,ho,hs,_,hr⟩|⟨_,o,S,ho,⟨hg,hs⟩,hr⟩
  ·simp only [wpOps,ho];exact step1_wp ho hs hi _ Q fun hd' F' a' w' hi'=>rt_text rest _ L1 K hd' F' a' w' hr hi' hq
  ·simp only [wpOps,ho];rw [guard_true hi hg];exact .inl (hs hd F a w hi _ Q fun L' a' w' hd' F' hS hi'=>rt_text rest _ L' K hd' F' a' w' (hr L' hS) hi' hq)
def LS.like (L M:LS):Prop:=(∀t,L.get t=M.get t)∧∀r,L.blk r=M.blk r
theorem LS.like.symm {L M:LS}(h:L.like M):M.like L:=⟨fun t=>(h.1 t).symm,fun r=>(h.2 r).symm⟩
theorem LS.like.ev {L M:LS}(h:L.like M):L.ev=M.ev:=by
 funext x;cases x<;>simp [LS.ev,h.1]
theorem LS.like.fresh {L M:LS}(h:L.like M){r:Nm}(hf:L.Fresh r):M.Fresh r:=⟨fun t=>by rw [←h.1 t];exact hf.1 t,fun s b hb=>hf.2 s b (by rw [h.2 s];exact hb)⟩
theorem Inv.like {C:Ctx}{L M:LS}(h:L.like M){hd:Nm→Hd}{F:Nat→Prop}{a:Act}{w:World}(hi:Inv C L hd F a w):Inv C M hd F a w:=
 { hi with slots:=fun t=>by rw [←h.1 t];exact hi.slots t,blocks:=fun r=>by rw [←h.2 r];exact hi.blocks r,ntmps:=hi.ntmps,defers:=hi.defers }
def upsGet:List (Nm × Option Blk)→Nm→Option (Option Blk)
 |[],_=>none
 |(k,b)::l,r=>match upsGet l r with
  |some x=>some x
  |none=>if k=r then some b else none
theorem upd_get (ups:List (Nm × Option Blk)):∀(L:LS) (r:Nm),(L.upd ups).blk r=(upsGet ups r).getD (L.blk r):=by
 induction ups with
 |nil=>intro L r;rfl
 |cons x l ih=>
  intro L r;obtain ⟨k,b⟩:=x;simp only [LS.upd,ih,upsGet];cases h:upsGet l r with
  |some y=>simp
  |none=>
   simp only [Option.getD_none,LS.blk,lkH_setH];by_cases hk:k=r
   ·subst hk;simp
   ·have:¬r=k:=fun e=>hk e.symm;simp [hk,this]
theorem upsGet_none {ups:List (Nm × Option Blk)}{r:Nm}(h:r∉ups.map (·.1)):upsGet ups r=none:=by
 induction ups with
 |nil=>rfl
 |cons x l ih=>
  obtain ⟨k,b⟩:=x;simp only [List.map_cons,List.mem_cons,not_or] at h;have h':¬k=r:=fun e=>h.1 e.symm;simp [upsGet,ih h.2,h']
theorem app_get (L:LS)(d:Option Nat)(A:Actn)(t:Nat):(L.app d A).get t=if d=some t then A.v else L.get t:=by
 unfold LS.app LS.get;cases d with
 |none=>simp [LS.put,upd_blk]
 |some d=>
  simp only [LS.put,lkS_setS,upd_blk,Option.some.injEq];by_cases h:t=d
  ·subst h;simp
  ·have:¬d=t:=fun e=>h e.symm;simp [h,this]
theorem app_blk (L:LS)(d:Option Nat)(A:Actn)(r:Nm):(L.app d A).blk r=(upsGet A.ups r).getD (L.blk r):=by
 unfold LS.app;cases d<;>simp [LS.put,LS.blk]<;>exact upd_get A.ups L r
theorem put_get (L:LS)(d:Option Nat)(x:AV)(t:Nat):(L.put d x).get t=if d=some t then x else L.get t:=by
 have:=app_get L d ⟨x,[]⟩ t;exact this
theorem put_blk (L:LS)(d:Option Nat)(x:AV)(r:Nm):(L.put d x).blk r=L.blk r:=by cases d<;>rfl
theorem upsGet_ments {ups:List (Nm × Option Blk)}{s:Nm}{b:Blk}(h:upsGet ups s=some (some b)){r:Nm}(hr:r∈b.ments):r∈upsMents ups:=by
 induction ups with
 |nil=>cases h
 |cons x l ih=>
  obtain ⟨k,c⟩:=x;simp only [upsGet] at h;cases hl:upsGet l s with
  |some y=>
   rw [hl] at h;obtain rfl:y=some b:=Option.some.inj h;cases c<;>simp [upsMents,ih hl]
  |none=>
   rw [hl] at h;by_cases hk:k=s
   ·simp only [hk,if_true] at h;obtain rfl:c=some b:=Option.some.inj h;simp [upsMents,hr]
   ·simp [hk] at h
theorem fresh_app {L:LS}{r:Nm}(h:L.Fresh r)(d:Option Nat)(A:Actn)(hv:r∉A.v.ments++upsMents A.ups):(L.app d A).Fresh r:=by
 rw [List.mem_append,not_or] at hv;constructor
 ·intro t;rw [app_get];split
  ·exact hv.1
  ·exact h.1 t
 ·intro s b hb;rw [app_blk] at hb;cases hu:upsGet A.ups s with
  |none=>rw [hu] at hb;exact h.2 s b hb
  |some y=>
   rw [hu] at hb;simp only [Option.getD_some] at hb;subst hb;exact fun hr=>hv.2 (upsGet_ments hu hr)
theorem fresh_step {C:Ctx}{ops:Array Oper}{i:Nat}{o:Oper}{L L1:LS}{y:Trace}{vm:List Nm}(h:Step1 C ops i o L L1 y vm){r:Nm}(hf:L.Fresh r)(hv:r∉vm):L1.Fresh r:=by
 rcases h with ⟨_,fp,A,_,_,_,rfl,_,rfl⟩|⟨_,rfl,_,rfl⟩
 ·exact fresh_app hf _ _ hv
 ·exact fresh_app (A:=⟨.tup [],[]⟩) hf _ (by simp [AV.ments,AV.ments.mentsL,upsMents])
theorem guard_congr {ops:Array Oper}{o:Oper}{L M:LS}(h:∀d,d∈Oper.looksAt ops o→L.get d=M.get d):guardOf ops o L=guardOf ops o M:=by
 unfold guardOf;cases hg:o.guard with
 |none=>rfl
 |some x=>
  obtain ⟨j,want⟩:=x;dsimp only;cases hj:(ops[j]?).bind (·.dst) with
  |none=>rfl
  |some d=>
   dsimp only;rw [h d (by simp [Oper.looksAt,hg,hj])]
theorem sem1_ev {C:Ctx}{o:Oper}{ev ev':Operand→AV}{fp:List (Nm × Blk)}{A:Actn}(h:Sem1 C o ev fp A)(he:∀x∈o.op.operands.toList,ev' x=ev x):Sem1 C o ev' fp A:=
 fun L hd F a w h1 h2 h3 hi K Q hK=>h L hd F a w (fun x hx=>(h1 x hx).trans (he x hx)) h2 h3 hi K Q hK
theorem ev_congr {ops:Array Oper}{o:Oper}{L M:LS}(h:∀d,d∈Oper.looksAt ops o→L.get d=M.get d):∀x∈o.op.operands.toList,L.ev x=M.ev x:=by
 intro x hx;cases x with
 |tmp t=>exact h t (by simp only [Oper.looksAt,List.mem_append,List.mem_filterMap];exact .inl ⟨_,hx,rfl⟩)
 |_=>rfl
theorem step1_move {C:Ctx}{ops:Array Oper}{i:Nat}{o:Oper}{L L1 M:LS}{y:Trace}{vm:List Nm}(h:Step1 C ops i o L L1 y vm)(hs:∀d,d∈Oper.looksAt ops o→M.get d=L.get d)
 (hb:∀r,r∈y.rd∨r∈y.wr→M.blk r=L.blk r) (hf:∀r,r∈mayMake1 o→r∈y.wr→L.Fresh r→M.Fresh r) :
 ∃M1,Step1 C ops i o M M1 y vm∧(∀t,o.dst=some t→M1.get t=L1.get t)∧(∀t,o.dst≠some t→M1.get t=M.get t)∧(∀r,r∈y.wr→M1.blk r=L1.blk r)∧∀r,r∉y.wr→M1.blk r=M.blk r:=by
 rcases h with ⟨hg,fp,A,h1,h2,h3,rfl,rfl,rfl⟩|⟨hg,rfl,rfl,rfl⟩
 ·refine ⟨M.app o.dst A,.inl ⟨(guard_congr hs).trans hg,fp,A,sem1_ev h1 (ev_congr hs),fun p hp=>?_,fun r hr=>?_,rfl,rfl,rfl⟩,?_,?_,?_,?_⟩
  ·rw [hb p.1 (.inl (List.mem_map.2 ⟨p,hp,rfl⟩))];exact h2 p hp
  ·have hw:r∈A.ups.map (·.1):=(List.mem_filter.1 hr).1;exact ⟨by rw [hb r (.inr hw)];exact (h3 r hr).1,hf r (h3 r hr).2.2 hw (h3 r hr).2.1,(h3 r hr).2.2⟩
  ·intro t ht;rw [app_get,app_get,if_pos ht,if_pos ht]
  ·intro t ht;rw [app_get,if_neg ht]
  ·intro r hr;rw [app_blk,app_blk,hb r (.inr hr)]
  ·intro r hr;rw [app_blk,upsGet_none hr];rfl
 ·refine ⟨M.put o.dst (.tup []),.inr ⟨(guard_congr hs).trans hg,rfl,rfl,rfl⟩,?_,?_,?_,?_⟩
  ·intro t ht;rw [put_get,put_get,if_pos ht,if_pos ht]
  ·intro t ht;rw [put_get,if_neg ht]
  ·intro r hr;cases hr
  ·intro r _;rw [put_blk]
theorem step1_frame {C:Ctx}{ops:Array Oper}{i:Nat}{o:Oper}{L L1:LS}{y:Trace}{vm:List Nm}(h:Step1 C ops i o L L1 y vm):(∀t,o.dst≠some t→L1.get t=L.get t)∧∀r,r∉y.wr→L1.blk r=L.blk r:=by
 rcases h with ⟨_,fp,A,_,_,_,rfl,rfl,_⟩|⟨_,rfl,rfl,_⟩
 ·exact ⟨fun t ht=>by rw [app_get,if_neg ht],fun r hr=>by rw [app_blk,upsGet_none hr];rfl⟩
 ·exact ⟨fun t ht=>by rw [put_get,if_neg ht],fun r _=>by rw [put_blk]⟩
theorem rt_like {C:Ctx}{ops:Array Oper}{K:LS→Prop}(hK:∀L M,L.like M→K L→K M):∀(l:List Nat) (done:List Trace) (L M:LS),RT C ops true l done L K→L.like M→RT C ops true l done M K
 |[],_,L,M,h,hl=>hK L M hl h
 |i::rest,done,L,M,h,hl=>by
  obtain ⟨o,L1,y,vm,ho,hs,hd,hr⟩:=rt_true.1 h;obtain ⟨M1,k1,k2,k3,k4,k5⟩:=step1_move hs (M:=M) (fun d _=>(hl.1 d).symm) (fun r _=>(hl.2 r).symm) (fun r _ _ hf=>hl.fresh hf);obtain ⟨j1,j2⟩:=step1_frame hs;refine rt_true.2 ⟨o,M1,y,vm,ho,k1,hd,rt_like hK rest _ L1 M1 hr ⟨fun t=>?_,fun r=>?_⟩⟩
  ·by_cases ht:o.dst=some t
   ·exact (k2 t ht).symm
   ·rw [k3 t ht,j1 t ht];exact hl.1 t
  ·by_cases hr:r∈y.wr
   ·exact (k4 r hr).symm
   ·rw [k5 r hr,j2 r hr];exact hl.2 r
theorem rt_done {C:Ctx}{ops:Array Oper}{K:LS→Prop}:∀(l:List Nat) (done done':List Trace) (L:LS),RT C ops true l done L K→(∀x∈done',x∈done)→RT C ops true l done' L K
 |[],_,_,_,h,_=>h
 |i::rest,done,done',L,h,hs=>by
  obtain ⟨o,L1,y,vm,ho,h1,hd,hr⟩:=rt_true.1 h;refine rt_true.2 ⟨o,L1,y,vm,ho,h1,⟨?_,hd.2⟩,rt_done rest (y::done) (y::done') L1 hr (fun x hx=>?_)⟩
  ·rw [List.all_eq_true];exact fun x hx=>List.all_eq_true.1 hd.1 x (hs x hx)
  ·rcases List.mem_cons.1 hx with rfl|hx
   ·exact List.mem_cons_self
   ·exact List.mem_cons_of_mem _ (hs x hx)
theorem disjoint_of {a b:List Nm}(h:∀r∈a,r∉b):disjoint a b=true:=by
 induction a with
 |nil=>rfl
 |cons x l ih=>
  simp only [disjoint,Bool.and_eq_true,notIn_iff];exact ⟨h x (by simp),ih fun r hr=>h r (by simp [hr])⟩
theorem mayMake_sub {ops:Array Oper}{l l':List Nat}(h:∀i∈l,i∈l'):∀r∈mayMake ops l,r∈mayMake ops l':=by
 induction l with
 |nil=>intro r hr;cases hr
 |cons k l ih=>
  intro r hr;simp only [mayMake] at hr;cases hk:ops[k]? with
  |none=>rw [hk] at hr;exact ih (fun i hi=>h i (by simp [hi])) r hr
  |some o=>
   rw [hk] at hr;rcases List.mem_append.1 hr with hr|hr
   ·exact mayMake_mem (h k (by simp)) hk hr
   ·exact ih (fun i hi=>h i (by simp [hi])) r hr
theorem rt_front {C:Ctx}{ops:Array Oper}{K:LS→Prop}(hK:∀L M,L.like M→K L→K M)(i:Nat)(o:Oper)(ho:ops[i]?=some o)(l2:List Nat):∀(l1:List Nat) (done:List Trace) (L:LS),
 RT C ops true (l1++i::l2) done L K→(∀j∈l1,¬boundN ops 5 o j=true)→(∀r∈mayMake ops (l1++i::l2),L.Fresh r)→
 ∃L1 y vm,Step1 C ops i o L L1 y vm∧(done.all fun x=>pairOk ops x o y vm)=true∧(∀r∈mayMake ops (l1++l2),r∉vm)∧RT C ops true (l1++l2) done L1 K
 |[],done,L,h,_,_=>by
  obtain ⟨o',L1,y,vm,ho',hs,hd,hr⟩:=rt_true.1 h;obtain rfl:o'=o:=by rw [ho] at ho';exact (Option.some.inj ho').symm
  obtain ⟨d1,d2⟩:=hd;exact ⟨L1,y,vm,hs,d1,disjoint_spec d2,rt_done _ _ _ _ hr (fun x hx=>List.mem_cons_of_mem _ hx)⟩
 |j::l1,done,L,h,hdep,hfr=>by
  obtain ⟨p,Lj,x,vj,hp,hsj,hdj,hrj⟩:=rt_true.1 h;obtain ⟨dj1,dj2⟩:=hdj;have hfrj:∀r∈mayMake ops (l1++i::l2),Lj.Fresh r:=fun r hr=>fresh_step hsj (hfr r (by
   simp only [List.cons_append,mayMake,hp];exact List.mem_append.2 (.inr hr))) (disjoint_spec dj2 r hr)
  obtain ⟨Lij,y,vm,hs,hall,hvm,hr⟩:=rt_front hK i o ho l2 l1 (x::done) Lj hrj (fun k hk=>hdep k (List.mem_cons_of_mem _ hk)) hfrj;simp only [List.all_cons,Bool.and_eq_true] at hall;obtain ⟨hxy,hall⟩:=hall;have hxi:x.i=j:=by
   rcases hsj with ⟨_,fp,A,_,_,_,_,rfl,_⟩|⟨_,_,rfl,_⟩<;>rfl
  have hno:=hdep j (by simp);simp only [pairOk,hxi,hp] at hxy;obtain ⟨⟨⟨a1,a2⟩,a3⟩,a4⟩:((Oper.apart ops p o=true∧disjoint x.wr (y.rd++y.wr)=true)∧disjoint y.wr x.rd=true)∧disjoint (mayMake1 p) vm=true:=by
   split at hxy
   ·rename_i e;rw [Bool.or_eq_true] at e;rcases e with e|e
    ·exact absurd (boundB_N e 5) hno
    ·simpa only [Bool.and_eq_true] using e
   ·exact absurd hxy hno
  obtain ⟨b1,b2,b3⟩:=Oper.apart_spec a1;have c2:=disjoint_spec a2;have c3:=disjoint_spec a3;have c4:=disjoint_spec a4;obtain ⟨fj1,fj2⟩:=step1_frame hsj;obtain ⟨fi1,fi2⟩:=step1_frame hs
  -- the later one first
  obtain ⟨Li,k1,k2,k3,k4,k5⟩:=step1_move hs (M:=L) (fun d hd=>(fj1 d (fun e=>b1 d e hd)).symm) (fun r hr=>by
   refine (fj2 r (fun hw=>c2 r hw (List.mem_append.2 ?_))).symm;rcases hr with hr|hr
   ·exact .inl hr
   ·exact .inr hr) (fun r hr _ _=>hfr r (mayMake_mem (i:=i) (by simp) ho hr))
  -- then the earlier one
  obtain ⟨M,m1,m2,m3,m4,m5⟩:=step1_move hsj (M:=Li) (fun d hd=>k3 d (fun e=>b3 d e hd)) (fun r hr=>by
   refine k5 r (fun hw=>?_);rcases hr with hr|hr
   ·exact c3 r hw hr
   ·exact c2 r hr (List.mem_append.2 (.inr hw))) (fun r hr _ hf=>fresh_step k1 hf (c4 r hr))
  have hlike:Lij.like M:=by
   constructor
   ·intro t;by_cases hi:o.dst=some t
    ·have hj:p.dst≠some t:=fun e=>b2 t e hi;rw [m3 t hj,k2 t hi]
    ·by_cases hj:p.dst=some t
     ·rw [fi1 t hi,m2 t hj]
     ·rw [fi1 t hi,fj1 t hj,m3 t hj,k3 t hi]
   ·intro r;by_cases hi:r∈y.wr
    ·have hj:r∉x.wr:=fun e=>c2 r e (List.mem_append.2 (.inr hi));rw [m5 r hj,k4 r hi]
    ·by_cases hj:r∈x.wr
     ·rw [fi2 r hi,m4 r hj]
     ·rw [fi2 r hi,fj2 r hj,m5 r hj,k5 r hi]
  refine ⟨Li,y,vm,k1,hall,fun r hr=>?_,rt_true.2 ⟨p,M,x,vj,hp,m1,⟨?_,?_⟩,?_⟩⟩
  ·simp only [List.cons_append,mayMake,hp,List.mem_append] at hr;rcases hr with hr|hr
   ·exact c4 r hr
   ·exact hvm r hr
  ·exact dj1
  ·exact disjoint_of fun r hr=>disjoint_spec dj2 r (mayMake_sub (l:=l1++l2) (l':=l1++i::l2) (fun k hk=>by simp only [List.mem_append,List.mem_cons] at hk ⊢;exact hk.imp id .inr) r hr)
  ·exact rt_like hK _ _ _ _ hr hlike
theorem rt_any {C:Ctx}{ops:Array Oper}{Q:Exit→Act→World→Prop}{K:LS→Prop}(hK:∀L M,L.like M→K L→K M)(hq:∀L' hd' F' a' w',K L'→Inv C L' hd' F' a' w'→Q .normal a' w')
 (htext:∀(i:Nat) (o:Oper),ops[i]?=some o→∀e∈o.after.toList,Region.binds .any e=true→e.on<i):∀(fuel:Nat) (l:List Nat) (listed:Array Bool) (L:LS) (hd:Nm→Hd) (F:Nat→Prop) (a:Act) (w:World),
 l.length≤fuel→l.Pairwise (· < ·)→(∀i,i∈l↔i<ops.size∧listed.getD i true=false)→listed.size=ops.size→(∀(k:Nat) (ok:Oper),listed.getD k false=true→ops[k]?=some ok→∀e∈ok.after.toList,Region.binds .any e=true→listed.getD e.on false=true)→RT C ops true l [] L K→(∀r∈mayMake ops l,L.Fresh r)→Inv C L hd F a w→
 wpAny C.P .any ops Q fuel listed a w:=by
 have hready:∀(l:List Nat) (listed:Array Bool),l.Pairwise (· < ·)→(∀i,i∈l↔i<ops.size∧listed.getD i true=false)→listed.size=ops.size→∀i l',l=i::l'→i∈Region.ready .any ops listed:=by
  intro l listed hp hm hsz i l' he;have hi:=(hm i).1 (by simp [he]);simp only [Region.ready,List.mem_filter,List.mem_range,Bool.and_eq_true,Bool.not_eq_true'];refine ⟨hi.1,hi.2,?_⟩;obtain ⟨o,ho⟩:∃o,ops[i]?=some o:=⟨_,Array.getElem?_eq_getElem hi.1⟩;rw [ho,Option.map_some,Option.getD_some,←Array.all_toList,List.all_eq_true];intro e he';simp only [Bool.or_eq_true,Bool.not_eq_true'];by_cases hb:Region.binds .any e=true
  ·right;have hlt:=htext i o ho e he' hb;by_cases hl:listed.getD e.on true=false
   ·have:=(hm e.on).2 ⟨by omega,hl⟩;rw [he] at this;rcases List.mem_cons.1 this with h|h
    ·omega
    ·rw [he] at hp;have:=(List.pairwise_cons.1 hp).1 _ h;omega
   ·rw [Bool.not_eq_false] at hl;have:e.on<listed.size:=(by omega);simpa [Array.getD_eq_getD_getElem?,this] using hl
  ·left;simpa using hb
 intro fuel;induction fuel with
 |zero=>
  intro l listed L hd F a w hl hp hm hsz hcl h hf hi;have hl0:l = []:=List.eq_nil_of_length_eq_zero (by omega);subst hl0;refine ⟨?_,hq L hd F a w h hi⟩;rw [List.eq_nil_iff_forall_not_mem];intro i hi';simp only [Region.ready,List.mem_filter,List.mem_range,Bool.and_eq_true,Bool.not_eq_true'] at hi';exact absurd ((hm i).2 ⟨hi'.1,hi'.2.1⟩) (by simp)
 |succ fuel ih=>
  intro l listed L hd F a w hl hp hm hsz hcl h hf hi;constructor
  ·intro he;cases l with
   |nil=>exact hq L hd F a w h hi
   |cons i l'=>
    have:=hready _ listed hp hm hsz i l' rfl;rw [he] at this;cases this
  ·intro i hi';simp only [Region.ready,List.mem_filter,List.mem_range,Bool.and_eq_true,Bool.not_eq_true'] at hi';obtain ⟨hlt,hun,hdeps⟩:=hi';obtain ⟨o,ho⟩:∃o,ops[i]?=some o:=⟨_,Array.getElem?_eq_getElem hlt⟩;obtain ⟨l1,l2,rfl⟩:=List.append_of_mem ((hm i).2 ⟨hlt,hun⟩);have hdep:∀e∈o.after.toList,Region.binds .any e=true→listed.getD e.on false=true:=fun e he1 he3=>by
    have hdeps:=hdeps;rw [ho,Option.map_some,Option.getD_some,←Array.all_toList,List.all_eq_true] at hdeps;have hde:=hdeps e he1;simp only [Bool.or_eq_true,Bool.not_eq_true'] at hde;rcases hde with h'|h'
    ·rw [he3] at h';cases h'
    ·exact h'
   have hun1:∀j∈l1,¬listed.getD j false=true:=fun j hj h'=>by
    have hjl:=(hm j).1 (by simp [hj]);have:j<listed.size:=(by omega);have h1:=hjl.2;simp only [Array.getD_eq_getD_getElem?,this,getElem?_pos,Option.getD_some] at h1 h';rw [h1] at h';cases h'
   have hbB:∀(q:Oper) (j:Nat),boundB q j=true→∃e∈q.after.toList,e.on=j∧Region.binds .any e=true:=fun q j he=>by
    rw [boundB,←Array.any_toList,List.any_eq_true] at he;obtain ⟨e,he1,he2⟩:=he;simp only [Bool.and_eq_true,beq_iff_eq] at he2;exact ⟨e,he1,he2⟩
   have hbL:∀(n:Nat) (k:Nat) (q:Oper) (j:Nat),(∀e∈q.after.toList,Region.binds .any e=true→listed.getD e.on false=true)→boundN ops n q j=true→listed.getD j false=true:=by
    intro n;induction n with
    |zero=>
     intro k q j hk hb;obtain ⟨e,g1,g2,g3⟩:=hbB q j hb;exact g2 ▸ hk e g1 g3
    |succ n ihn=>
     intro k q j hk hb;unfold boundN at hb;split at hb
     ·rename_i hg;obtain ⟨e,g1,g2,g3⟩:=hbB q j hg;exact g2 ▸ hk e g1 g3
     ·rw [←Array.any_toList,List.any_eq_true] at hb;obtain ⟨e,he1,he2⟩:=hb;rw [Bool.and_eq_true] at he2;obtain ⟨he2,he3⟩:=he2;split at he3
      ·rename_i q' hq';exact ihn e.on q' j (hcl e.on q' (hk e he1 he2) hq') he3
      ·cases he3
   obtain ⟨L1,y,vm,hs,_,hvm,hr⟩:=rt_front hK i o ho l2 l1 [] L h (fun j hj he=>by
    exact hun1 j hj (hbL 5 i o j hdep he)) hf
   have hlt':i<listed.size:=(by omega);have hnd:i∉l1++l2:=by
    rw [List.pairwise_append] at hp;intro hmem;rcases List.mem_append.1 hmem with h'|h'
    ·have:=hp.2.2 i h' i (by simp);omega
    ·have:=(List.pairwise_cons.1 hp.2.1).1 i h';omega
   have hm':∀k,k∈l1++l2↔k<ops.size∧(listed.setIfInBounds i true).getD k true=false:=by
    intro k;have hk:=hm k;simp only [List.mem_append,List.mem_cons] at hk ⊢;by_cases hki:k=i
    ·subst hki;have:¬(k∈l1∨k∈l2):=(by simpa using hnd);simp [this,Array.getD_eq_getD_getElem?,hlt']
    ·have hik:¬i=k:=fun e=>hki e.symm;simp only [Array.getD_eq_getD_getElem?,Array.getElem?_setIfInBounds_ne hik] at hk ⊢;rw [←hk];simp [hki]
   have hset:∀k,listed.getD k false=true→(listed.setIfInBounds i true).getD k false=true:=fun k hk=>by
    by_cases hki:k=i
    ·subst hki;simp [Array.getD_eq_getD_getElem?,hlt']
    ·have hik:¬i=k:=fun e=>hki e.symm;simpa only [Array.getD_eq_getD_getElem?,Array.getElem?_setIfInBounds_ne hik] using hk
   have hcl':∀(k:Nat) (ok:Oper),(listed.setIfInBounds i true).getD k false=true→ops[k]?=some ok→∀e∈ok.after.toList,Region.binds .any e=true→(listed.setIfInBounds i true).getD e.on false=true:=fun k ok hk hok e he hb=>by
    by_cases hki:k=i
    ·subst hki;rw [ho] at hok;cases hok;exact hset _ (hdep e he hb)
    ·have hik:¬i=k:=fun e=>hki e.symm;simp only [Array.getD_eq_getD_getElem?,Array.getElem?_setIfInBounds_ne hik] at hk;exact hset _ (hcl k ok (by simpa only [Array.getD_eq_getD_getElem?] using hk) hok e he hb)
   have hfin:∀hd' F' a' w',Inv C L1 hd' F' a' w'→wpAny C.P .any ops Q fuel (listed.setIfInBounds i true) a' w':=fun hd' F' a' w' hi'=>
    ih (l1++l2) _ L1 hd' F' a' w' (by simp at hl ⊢;omega) (by
     rw [List.pairwise_append] at hp ⊢;refine ⟨hp.1,(List.pairwise_cons.1 hp.2.1).2,fun x hx y hy=>hp.2.2 x hx y (by simp [hy])⟩) hm' (by simpa using hsz) hcl' hr
     (fun r hr=>fresh_step hs (hf r (mayMake_sub (l:=l1++l2) (l':=l1++i::l2) (fun k hk=>by simp only [List.mem_append,List.mem_cons] at hk ⊢;exact hk.imp id .inr) r hr)) (hvm r hr)) hi'
   have:=step1_wp ho hs hi (wpAny C.P .any ops Q fuel (listed.setIfInBounds i true)) Q hfin;simp only [wpOp,ho];exact this
end Go.Abs
namespace Go.Abs
open Go.RowKit
inductive TU where
 |str (fs:List (Nat × Nat))
 |slice (e:Nat)
 |int (k:IntKind)
 |string
 |bool
 |other
structure TI where
 agg:Bool
 size:Nat
 bytes:Nat
 zero:List PV
 und:TU
def PV.raw:PV→Value
 |.val v=>v
 |.ro _ _=>.slice none 0 0
 |.nilS _=>.slice none 0 0
 |.opq _=>.slice none 0 0
structure TOk1 (P:Program) (t:Nat) (i:TI):Prop where
 agg:∀w,(isAgg t).run P w = .ok i.agg w
 info:∃inf z,P.info? t=some inf∧inf.size=i.size∧inf.bytes=i.bytes∧inf.zero=some z∧z.cells.toList=i.zero.map PV.raw∧i.zero.length=i.size
 zero:∀p∈i.zero,(∃v,p = .val v∧v.oneCell'=true)∨∃sz,p = .nilS sz
 one:0<i.size
 und:match i.und with
  |.str fs=>∃d,P.underlying t=some (.struct d)∧d.toList.map (fun f=>(f.offset,f.type))=fs
  |.slice e=>P.underlying t=some (.slice e)
  |.int k=>P.underlying t=some (.int k)
  |.string=>P.underlying t=some .string
  |.bool=>P.underlying t=some .bool
  |.other=>True
abbrev TT:=List (Nat × TI)
def lkT:TT→Nat→Option TI
 |[],_=>none
 |(k,i)::l,t=>if k=t then some i else lkT l t
def TOk (P:Program)(T:TT):Prop:=∀p∈T,TOk1 P p.1 p.2
theorem lkT_ok {P:Program}{T:TT}(h:TOk P T){t:Nat}{i:TI}(ht:lkT T t=some i):TOk1 P t i:=by
 induction T with
 |nil=>cases ht
 |cons x l ih=>
  obtain ⟨k,j⟩:=x;simp only [lkT] at ht;split at ht
  ·rename_i e;cases ht;subst e;exact h (k,i) (by simp)
  ·exact ih (fun p hp=>h p (by simp [hp])) ht
theorem ev_rep {C:Ctx}{L:LS}{hd:Nm→Hd}{F:Nat→Prop}{a:Act}{w:World}(h:Inv C L hd F a w)(x:Operand):Rep w F hd (L.ev x) (a.eval x):=by
 cases x with
 |tmp t=>exact h.slots t
 |global g=>exact .any _
 |func f=>exact .fn (.func f) [] [] [] [] rfl rfl (fun j c v h=>by simp at h) (fun j c v h=>by simp at h)
 |const v=>
  simp only [LS.ev,Act.eval];split
  ·exact .pv _ _ (.nilS 0)
  ·rename_i cs;split
   ·rename_i hall;rw [List.all_eq_true] at hall;have:=Rep.agg (w:=w) (F:=F) (hd:=hd) (cs.toList.map fun c=>.pv (.val c)) cs.toList (by simp) (fun j c v hj hv=>by
     rw [List.getElem?_map,hv] at hj;cases hj;exact .pv _ _ (.val _ (hall v (List.mem_of_getElem? hv)))) hall
    simpa using this
   ·exact .any _
  ·exact .any _
  ·rename_i h1 h2 h3;refine .pv _ _ (.val _ ?_);cases v<;>first|rfl|exact absurd rfl (h2 _)|exact absurd rfl (h3 _)
theorem bool_of {w:World}{F:Nat→Prop}{hd:Nm→Hd}{v u:Value}(h:Rep w F hd (.pv (.val u)) v):v=u:=by
 cases h with
 |pv _ _ h=>cases h;rfl
def Ctx.b (C:Ctx):Frame:={ (default:Frame) with fn:=C.f,kind:=.normal }
def GoS (C:Ctx)(todo:List Item)(L:LS):Prop:=∀hd F a w,Inv C L hd F a w→∀cs,∃e w' fr,C.R e w'∧Comes C.P (lone (C.b.at a todo) cs w) (lone fr cs w') e∧fr.fn=C.f∧fr.leaving C.P w' e
theorem GoS.like {C:Ctx}{todo:List Item}(L M:LS)(h:L.like M)(hg:GoS C todo L):GoS C todo M:=fun hd F a w hi=>hg hd F a w (hi.like h.symm)
theorem go_one {C:Ctx}{todo todo':List Item}{L:LS}(hs:∀a w cs,step C.P (lone (C.b.at a todo) cs w) = .next (lone (C.b.at a todo') cs w))(h:GoS C todo' L):GoS C todo L:=by
 intro hd F a w hi cs;obtain ⟨e,w',fr,h1,h2,h3⟩:=h hd F a w hi cs;exact ⟨e,w',fr,h1,.of_steps (.one (hs a w cs)) h2,h3⟩
theorem go_skip {C:Ctx}{k:List Item}{L:LS}(h:GoS C k L):GoS C (.code .skip::k) L:=go_one (fun _ _ _=>step_skip) h
theorem go_label {C:Ctx}{l:Nat}{k:List Item}{L:LS}(h:GoS C k L):GoS C (.code (.label l)::k) L:=go_one (fun _ _ _=>step_label) h
theorem go_seq {C:Ctx}{x y:Code}{k:List Item}{L:LS}(h:GoS C (.code x :: .code y::k) L):GoS C (.code (.seq x y)::k) L:=go_one (fun _ _ _=>step_seq) h
theorem go_block {C:Ctx}{n:Nat}{x:Code}{k:List Item}{L:LS}(h:GoS C (.code x :: .inBlock n::k) L):GoS C (.code (.block n x)::k) L:=go_one (fun _ _ _=>step_block) h
theorem go_inBlock {C:Ctx}{n:Nat}{k:List Item}{L:LS}(h:GoS C k L):GoS C (.inBlock n::k) L:=go_one (fun _ _ _=>step_inBlock) h
theorem go_exit {C:Ctx}{n:Nat}{k k':List Item}{L:LS}(hk:exitTo n k=some k')(h:GoS C k' L):GoS C (.code (.exit n)::k) L:=go_one (fun _ _ _=>step_exit hk) h
theorem go_loopIn {C:Ctx}{x:Code}{k:List Item}{L:LS}(h:GoS C (.code x :: .inLoop x::k) L):GoS C (.code (.loop x)::k) L:=go_one (fun _ _ _=>step_loop) h
theorem go_inLoop {C:Ctx}{x:Code}{k:List Item}{L:LS}(h:GoS C (.code x :: .inLoop x::k) L):GoS C (.inLoop x::k) L:=go_one (fun _ _ _=>step_inLoop) h
theorem go_cond {C:Ctx}{c:Operand}{x y:Code}{k:List Item}{L:LS}{t:Bool}(hc:L.ev c = .pv (.val (.bool t)))(h:GoS C (.code (if t then x else y)::k) L):GoS C (.code (.cond c x y)::k) L:=by
 intro hd F a w hi cs;obtain ⟨e,w',fr,h1,h2,h3⟩:=h hd F a w hi cs;have hv:=ev_rep hi c;rw [hc] at hv;exact ⟨e,w',fr,h1,.of_steps (.one (step_cond (bool_of hv))) h2,h3⟩
theorem go_region {C:Ctx}{id:Nat}{ops:Array Oper}{k:List Item}{L:LS}(h:RT C ops false (List.range ops.size) [] L (GoS C k)):GoS C (.code (.region id ops false)::k) L:=by
 intro hd F a w hi cs;have hw:=rt_text (Q:=fun e a' w'=>e = .normal∧∃L' hd' F',GoS C k L'∧Inv C L' hd' F' a' w') _ _ L _ hd F a w h hi (fun L' hd' F' a' w' h1 h2=>⟨rfl,L',hd',F',h1,h2⟩);obtain ⟨e,a',w',⟨rfl,L',hd',F',h1,h2⟩,harr⟩:=wp_region (id:=id) hw C.b k cs;obtain ⟨e,w'',fr,h3,h4,h5⟩:=h1 hd' F' a' w' h2 cs;exact ⟨e,w'',fr,h3,.of_steps harr h4,h5⟩
def drawOk (ops:Array Oper):Bool:=go ops.toList 0
where
 go:List Oper→Nat→Bool
  |[],_=>true
  |o::l,i=>(o.after.toList.all fun e=>!(Region.binds .any e) || Nat.blt e.on i)&&go l (i+1)
theorem drawOk_spec {ops:Array Oper}(h:drawOk ops=true)(i:Nat)(o:Oper)(ho:ops[i]?=some o):∀e∈o.after.toList,Region.binds .any e=true→e.on<i:=by
 have key:∀(l:List Oper) (n j:Nat),drawOk.go l n=true→l[j]?=some o→∀e∈o.after.toList,Region.binds .any e=true→e.on<n+j:=by
  intro l;induction l with
  |nil=>intro n j _ hj;simp at hj
  |cons x l ih=>
   intro n j hg hj e he hb;simp only [drawOk.go,Bool.and_eq_true,List.all_eq_true] at hg;cases j with
   |zero=>
    simp at hj;subst hj;have:=hg.1 e he;simp [hb,Nat.blt_eq] at this;exact this
   |succ j=>
    simp at hj;have:=ih (n+1) j hg.2 hj e he hb;omega
 intro e he hb;have:=key ops.toList 0 i h (by simpa using ho) e he hb;omega
theorem drew_inv {C:Ctx}{L:LS}{hd:Nm→Hd}{F:Nat→Prop}{a:Act}{w:World}(h:Inv C L hd F a w):Inv C L hd F a { w with drawn:=w.drawn+1 }:=by
 have hm:∀x v,Rep w F hd x v→Rep { w with drawn:=w.drawn+1 } F hd x v:=fun x v hx=>Rep.mono (w:=w) (w':=w.drew) (fun _ _=>rfl) (fun _ h=>h) hx (fun _ _=>.inl rfl);refine { h with slots:=fun t=>hm _ _ (h.slots t),blocks:=fun r=>?_,ntmps:=h.ntmps,defers:=h.defers,gl:=C.Gl.mono h.gl (fun _ _=>rfl) (fun _ h=>h) };have hb:=h.blocks r;cases hl:L.blk r with
 |none=>rw [hl] at hb;exact hb
 |some b=>
  rw [hl] at hb;cases b with
  |box ty cs=>
   obtain ⟨k,arr,h1,h2,h3,h4,h5⟩:=hb;exact ⟨k,arr,h1,h2,h3,fun j c v hj hv=>hm _ _ (h4 j c v hj hv),h5⟩
  |row e sz es=>
   obtain ⟨v,cells,h1,h2,h3,h4,h5⟩:=hb;exact ⟨v,cells,h1,h2,h3,fun i j el c u h6 h7 h8=>RepP.mono (w:=w) (w':=w.drew) (fun _ _=>rfl) (fun _ h=>h) (h4 i j el c u h6 h7 h8),h5⟩
  |raw Q=>exact hb
  |iter Q=>exact hb
  |gen Q=>exact hb
  |genP Q s=>exact hb
  |fam ty l=>
   obtain ⟨h1,h2⟩:=hb;refine ⟨h1,fun k p hp=>?_⟩;obtain ⟨cs,arr,q1,q2,q3,q4,q5⟩:=h2 k p hp;exact ⟨cs,arr,q1,q2,q3,fun j c v a1 a2=>RepP.mono (w:=w) (w':=w.drew) (fun _ _=>rfl) (fun _ h=>h) (q4 j c v a1 a2),q5⟩
theorem go_regionD {C:Ctx}{id:Nat}{ops:Array Oper}{k:List Item}{L:LS}(hm:C.P.follows .mixedOrders=true)(hd:drawOk ops=true)(hf:∀r∈mayMake ops (List.range ops.size),L.freshB r=true)
 (h:RT C ops true (List.range ops.size) [] L (GoS C k)):GoS C (.code (.region id ops true)::k) L:=by
 intro hd' F a w hi cs;have hw:=rt_any (C:=C) (Q:=fun e a' w'=>e = .normal∧∃L' hd' F',GoS C k L'∧Inv C L' hd' F' a' w') (K:=GoS C k) (fun L M hl hg=>GoS.like L M hl hg) (fun L' hd' F' a' w' h1 h2=>⟨rfl,L',hd',F',h1,h2⟩)
  (fun i o ho=>drawOk_spec hd i o ho) ops.size (List.range ops.size) (Array.replicate ops.size false) L hd' F a _ (by simp) List.pairwise_lt_range (fun i=>by
    simp only [List.mem_range];constructor
    ·intro hi;exact ⟨hi,by simp [Array.getD_eq_getD_getElem?,hi]⟩
    ·exact fun h=>h.1) (by simp) (fun k ok hk=>by
     exfalso;rw [Array.getD_eq_getD_getElem?] at hk;by_cases hs:k<ops.size
     ·simp [hs] at hk
     ·rw [Array.getElem?_eq_none (by simpa using hs)] at hk;cases hk) h (fun r hr=>LS.fresh_of (hf r hr)) (drew_inv hi)
 obtain ⟨e,a',w',⟨rfl,L',hd'',F',h1,h2⟩,harr⟩:=wp_region_any (id:=id) hm hw C.b k cs;obtain ⟨e,w'',fr,h3,h4,h5⟩:=h1 hd'' F' a' w' h2 cs;exact ⟨e,w'',fr,h3,.of_steps harr h4,h5⟩
def mapAt (Q:World→(Nat→Prop)→Obj→Prop)(w:World)(F:Nat→Prop)(v:Value):Prop:=∃k o,v = .map (some k)∧F k∧w.heap[k]?=some o∧Q w F o
def AV.frz (keep H:Nm→Option Blk):AV→AV
 |.own r=>match keep r with
  |some _=>.own r
  |none=>match H r with
   |some (.row _ sz es)=>.pv (.ro sz es)
   |_=>.any
 |.agg l=>.agg (frzL keep H l)
 |.tup l=>.tup (frzL keep H l)
 |.pv p=>match p with
  |.nilS sz=>.pv (.ro sz [])
  |p=>.pv p
 |.rop cs=>.rop cs
 |.ptr r off=>match keep r with
  |some _=>.ptr r off
  |none=>.any
 |.hmap r=>match keep r with
  |some _=>.hmap r
  |none=>match H r with
   |some (.raw Q)=>.rom Q
   |some (.gen Q)=>.pv (.opq (mapAt Q))
   |_=>.any
 |.rom Q=>.rom Q
 |.opq Q=>.opq Q
 |_=>.any
where frzL (keep H:Nm→Option Blk):List AV→List AV
 |[]=>[]
 |x::l=>x.frz keep H::frzL keep H l
theorem frzL_get (keep H:Nm→Option Blk):∀(l:List AV) (j:Nat),(AV.frz.frzL keep H l)[j]?=(l[j]?).map (AV.frz keep H)
 |[],j=>by simp [AV.frz.frzL]
 |x::l,0=>by simp [AV.frz.frzL]
 |x::l,j+1=>by simp [AV.frz.frzL,frzL_get keep H l j]
theorem frzL_len (keep H:Nm→Option Blk):∀(l:List AV),(AV.frz.frzL keep H l).length=l.length
 |[]=>rfl
 |x::l=>by simp [AV.frz.frzL,frzL_len keep H l]
def plus (keep:Nm→Option Blk)(F:Nat→Prop)(hd:Nm→Hd)(k:Nat):Prop:=F k∨∃r,keep r=none∧(hd r).owns k
def onlyHd (keep:Nm→Option Blk)(hd:Nm→Hd)(r:Nm):Hd:=match keep r with
 |none=>.dead
 |some _=>hd r
theorem onlyHd_or (keep:Nm→Option Blk)(hd:Nm→Hd)(r:Nm):onlyHd keep hd r=hd r∨onlyHd keep hd r = .dead:=by unfold onlyHd;cases keep r<;>simp
theorem row_ro {w:World}{F:Nat→Prop}{e sz:Nat}{es:List (List PV)}{v:Value}{cells:List Value}(ho:w.ownsRow 0 e sz v es.length cells)(hl:∀(i:Nat) (el:List PV),es[i]?=some el→el.length=sz)
 (hr:∀(i j:Nat) (el:List PV) (c:PV) (u:Value),es[i]?=some el→el[j]?=some c→cells[i*sz+j]?=some u→RepP w F c u) (hF:∀k,v.ownBlock=some k→F k):RepP w F (.ro sz es) v:=by
 obtain ⟨hlen,hv⟩:=ho;have hcell:∀(i j:Nat) (el:List PV) (c:PV),es[i]?=some el→el[j]?=some c→∃u,cells[i*sz+j]?=some u:=by
  intro i j el c hi hj;have h1:i<es.length:=(List.getElem?_eq_some_iff.1 hi).1;have h2:j<sz:=by rw [←hl i el hi];exact (List.getElem?_eq_some_iff.1 hj).1
  have:i*sz+j<cells.length:=by
   rw [hlen]
   calc i*sz+j<i*sz+sz:=by omega
    _=(i+1)*sz:=by rw [Nat.add_mul,Nat.one_mul]
    _≤es.length*sz:=Nat.mul_le_mul_right _ h1
  exact ⟨_,List.getElem?_eq_getElem this⟩
 have hval:∀(i j:Nat) (el:List PV) (c:PV),es[i]?=some el→el[j]?=some c→RepP w F c (cells.getD (i*sz+j) undef):=by
  intro i j el c hi hj;obtain ⟨u,hu⟩:=hcell i j el c hi hj;rw [List.getD_eq_getElem?_getD,hu];exact hr i j el c u hi hj hu
 rcases hv with ⟨rfl,hn⟩|⟨g,cap,cur,rfl,_,hg,hnc,hcm,hcs,htake⟩
 ·have:es = []:=List.eq_nil_of_length_eq_zero hn;subst this;exact .ro sz [] none 0 (fun _ _=>undef) (fun _=>rfl) (by simp) (by simp) (fun i e h=>by simp at h) (fun h=>absurd rfl h) (fun i j e c h=>by simp at h)
 ·refine .ro sz es (some ⟨g,0,none⟩) cap (fun i j=>cells.getD (i*sz+j) undef) (fun h=>by cases h) hnc (by simp only [maxLen] at hcm;omega) hl (fun _=>⟨⟨g,0,none⟩,rfl,rfl,hF g rfl,fun i j el c hi hj=>?_⟩) hval;obtain ⟨u,hu⟩:=hcell i j el c hi hj;rw [List.getD_eq_getElem?_getD,hu];exact World.ownsRow.cells (base:=0) (e:=e) (size:=sz) (n:=es.length) (v:=.slice (some ⟨g,0,none⟩) es.length cap) ⟨hlen,.inr ⟨g,cap,cur,rfl,Nat.zero_le _,hg,hnc,hcm,hcs,htake⟩⟩ rfl _ _ hu
theorem frz_rep {w:World}{F:Nat→Prop}{hd:Nm→Hd}{keep H:Nm→Option Blk}(hb:∀r,HoldB w F hd r (H r)){x:AV}{v:Value}(h:Rep w F hd x v):Rep w (plus keep F hd) (onlyHd keep hd) (x.frz keep H) v:=by
 have hcase:∀r,onlyHd keep hd r=hd r∨onlyHd keep hd r = .dead:=onlyHd_or keep hd;induction h with
 |pv p v h=>
  simp only [AV.frz];split
  ·rename_i sz;cases h;exact .pv _ _ (.ro sz [] none 0 (fun _ _=>undef) (fun _=>rfl) (by simp) (by simp) (fun i e h=>by simp at h) (fun h=>absurd rfl h) (fun i j e c h=>by simp at h))
  ·exact .pv p v (h.mono (fun _ _=>rfl) (fun _ h=>.inl h))
 |agg l cs hl h h1 ih=>
  refine .agg _ cs (by rw [frzL_len];exact hl) (fun j c v hj hv=>?_) h1;rw [frzL_get] at hj;cases hlj:l[j]? with
  |none=>rw [hlj] at hj;cases hj
  |some y=>rw [hlj] at hj;cases hj;exact ih j y v hlj hv
 |tup l cs hl h ih=>
  refine .tup _ cs (by rw [frzL_len];exact hl) (fun j c v hj hv=>?_);rw [frzL_get] at hj;cases hlj:l[j]? with
  |none=>rw [hlj] at hj;cases hj
  |some y=>rw [hlj] at hj;cases hj;exact ih j y v hlj hv
 |own r v h0 h=>
  simp only [AV.frz];cases hk:keep r with
  |some _=>
   exact .own r v h0 fun u hu=>h u (by
    rcases hcase r with e|e
    ·exact e ▸ hu
    ·rw [e] at hu;cases hu)
  |none=>
   have:=hb r;cases hr:H r with
   |none=>exact .any _
   |some b=>
    rw [hr] at this;cases b with
    |box=>exact .any _
    |raw=>exact .any _
    |iter=>exact .any _
    |gen=>exact .any _
    |fam=>exact .any _
    |genP=>exact .any _
    |row e sz es=>
     obtain ⟨u,cells,h1,h2,h3,h4,h5⟩:=this;obtain rfl:=h u h1;exact .pv _ _ (row_ro h2 h3 (fun i j el c u' a1 a2 a3=>(h4 i j el c u' a1 a2 a3).mono (fun _ _=>rfl) (fun _ h=>.inl h)) (fun k hk'=>.inr ⟨r,hk,by rw [h1];exact hk'⟩))
 |rop cs ad u hs h1 hc hr=>exact .rop cs ad u hs (.inl h1) hc (fun j c hj=>(hr j c hj).mono (fun _ _=>rfl) (fun _ h=>.inl h))
 |ptr r off v h0 h=>
  simp only [AV.frz];cases hk:keep r with
  |none=>exact .any _
  |some _=>
   exact .ptr r off v h0 fun u hu=>h u (by
    rcases hcase r with e|e
    ·exact e ▸ hu
    ·rw [e] at hu;cases hu)
 |hmap r v h0 h=>
  simp only [AV.frz];cases hk:keep r with
  |none=>
   have:=hb r;cases hr:H r with
   |none=>exact .any _
   |some b=>
    rw [hr] at this;cases b with
    |box=>exact .any _
    |row=>exact .any _
    |iter=>exact .any _
    |fam=>exact .any _
    |genP=>exact .any _
    |raw Q=>
     obtain ⟨k,o,h1,h2,h3⟩:=this;obtain rfl:=h k h1;exact .rom Q k o (.inr ⟨r,hk,by rw [h1];exact rfl⟩) h2 h3
    |gen Q=>
     obtain ⟨k,o,h1,h2,h3⟩:=this;obtain rfl:=h k h1;have hF:plus keep F hd k:=.inr ⟨r,hk,by rw [h1];exact rfl⟩;exact .pv _ _ (.opq _ _ rfl fun w2 F2 e1 e2=>⟨k,o,rfl,e2 k hF,(e1 k hF).trans h2,h3 w2 F2 (fun j hj=>e1 j (.inl hj)) (fun j hj=>e2 j (.inl hj))⟩)
  |some _=>
   exact .hmap r v h0 fun u hu=>h u (by
    rcases hcase r with e|e
    ·exact e ▸ hu
    ·rw [e] at hu;cases hu)
 |rom Q k o h1 h2 h3=>exact .rom Q k o (.inl h1) h2 h3
 |opq Q v h1 h=>exact .opq Q v h1 fun w2 F2 e1 e2=>h w2 F2 (fun k hk=>e1 k (.inl hk)) (fun k hk=>e2 k (.inl hk))
 |_=>exact .any _
def res1 (T:TT)(L:LS):ResultVar→Option AV
 |.tmp t=>some (L.get t)
 |.cell a ty=>match L.get a with
  |.ptr r 0=>match L.blk r with
   |some (.box _ cs)=>match lkT T ty with
    |some i=>if i.agg=true then (if i.size=cs.length then some (.agg cs) else none) else match cs with
     |[x]=>some x
     |_=>none
    |none=>none
   |_=>none
  |_=>none
def resL (T:TT)(L:LS):List ResultVar→Option (List AV)
 |[]=>some []
 |r::l=>match res1 T L r with
  |some x=>match resL T L l with
   |some xs=>some (x::xs)
   |none=>none
  |none=>none
def resAV (T:TT)(L:LS)(rs:List ResultVar):Option AV:=match resL T L rs with
 |some [x]=>some x
 |some l=>some (.tup l)
 |none=>none
theorem run_mapM {P:Program}{α β:Type}(f:α→Sem β)(w:World):∀(l:List α) (vs:List β),vs.length=l.length→(∀(j:Nat) (x:α) (v:β),l[j]?=some x→vs[j]?=some v→(f x).run P w = .ok v w)→(l.mapM f).run P w = .ok vs w
 |[],vs,hl,_=>by
  obtain rfl:vs = []:=List.eq_nil_of_length_eq_zero (by simpa using hl);rfl
 |x::l,vs,hl,h=>by
  cases vs with
  |nil=>simp at hl
  |cons v vs=>
   have h0:=h 0 x v rfl rfl;have ih:=run_mapM f w l vs (by simpa using hl) (fun j x v h1 h2=>h (j+1) x v h1 h2);simp [List.mapM_cons,h0,ih]
def rsem (tmps:Array Value):ResultVar→Sem Value
 |.tmp t=>pure (tmps.getD t undef)
 |.cell b t=>do loadVar t (←asAddr (tmps.getD b undef))
theorem run_res1 {C:Ctx}{T:TT}(hT:TOk C.P T){L:LS}{hd:Nm→Hd}{F:Nat→Prop}{a:Act}{w:World}(hi:Inv C L hd F a w){r:ResultVar}{x:AV}(h:res1 T L r=some x) :
 ∃v,(rsem a.tmps r).run C.P w = .ok v w∧Rep w F hd x v:=by
 cases r with
 |tmp t=>
  simp only [res1,Option.some.injEq] at h;subst h;exact ⟨_,rfl,hi.slots t⟩
 |cell b ty=>
  simp only [res1] at h;have hs:=hi.slots b;generalize L.get b=y at h hs;cases y with
  |ptr r off=>
   cases off with
   |succ n=>simp at h
   |zero=>
    simp only at h;have hb:=hi.blocks r;generalize L.blk r=z at h hb;cases z with
    |none=>simp at h
    |some z=>
     cases z with
     |row=>simp at h
     |raw=>simp at h
     |iter=>simp at h
     |gen=>simp at h
     |fam=>simp at h
     |genP=>simp at h
     |box ty' cs=>
      simp only at h;obtain ⟨k,arr,h1,h2,h3,h4,h5⟩:=hb;have hv:a.tmps.getD b undef = .pointer (some ⟨k,0,none⟩):=by cases hs with|ptr _ _ _ _ hp=>exact hp k h1
      simp only [rsem,hv];cases hlk:lkT T ty with
      |none=>rw [hlk] at h;cases h
      |some i=>
       rw [hlk] at h;have ok:=lkT_ok hT hlk;simp only at h;have hcell:∀j v,arr.toList[j]?=some v→w.cell? ((⟨k,0,none⟩:Addr).add j)=some v:=by
        intro j v hj;have hadd:(⟨k,0,none⟩:Addr).add j=⟨k,j,none⟩:=(by unfold Addr.add;split<;>simp_all);rw [hadd];simpa [World.cell?,h2] using hj
       obtain ⟨inf,z,j1,j2,_⟩:=ok.info;cases hag:i.agg with
       |true=>
        rw [hag] at h;simp only [if_true] at h;split at h
        ·rename_i hsz;cases h;have hload:=run_loadCells_list (P:=C.P) w ⟨k,0,none⟩ arr.toList hcell;have hlen:arr.toList.length=inf.size:=(by simp [j2,hsz,h3]);rw [hlen] at hload;refine ⟨.agg arr.toList.toArray,?_,.agg cs arr.toList (by simpa using h3) (fun j c v hj hv=>h4 j c v hj (by simpa using hv)) h5⟩;simp [asAddr,loadVar,ok.agg w,hag,sizeOf,typeInfo,j1,hload]
        ·cases h
       |false=>
        rw [hag] at h;simp only [Bool.false_eq_true,if_false] at h;split at h
        ·rename_i c;cases h;have hone:0<arr.size:=(by rw [h3];simp);refine ⟨arr[0],?_,h4 0 x arr[0] rfl (by simp)⟩;have:=hcell 0 arr[0] (by simp);have hadd:(⟨k,0,none⟩:Addr).add 0=⟨k,0,none⟩:=rfl;rw [hadd] at this;simp [asAddr,loadVar,ok.agg w,hag,this]
        ·cases h
  |_=>simp at h
theorem run_resL {C:Ctx}{T:TT}(hT:TOk C.P T){L:LS}{hd:Nm→Hd}{F:Nat→Prop}{a:Act}{w:World}(hi:Inv C L hd F a w):∀(rs:List ResultVar) (xs:List AV),resL T L rs=some xs→
 ∃vs:List Value,vs.length=rs.length∧xs.length=vs.length∧(∀(j:Nat) (r:ResultVar) (v:Value),rs[j]?=some r→vs[j]?=some v→(rsem a.tmps r).run C.P w = .ok v w)∧
  ∀(j:Nat) (x:AV) (v:Value),xs[j]?=some x→vs[j]?=some v→Rep w F hd x v
 |[],xs,h=>by
  simp only [resL,Option.some.injEq] at h;subst h;exact ⟨[],rfl,rfl,fun j r v hj=>by simp at hj,fun j x v hj=>by simp at hj⟩
 |r::rs,xs,h=>by
  simp only [resL] at h;cases hr:res1 T L r with
  |none=>rw [hr] at h;cases h
  |some x=>
   rw [hr] at h;cases hl:resL T L rs with
   |none=>rw [hl] at h;cases h
   |some ys=>
    rw [hl] at h;cases h;obtain ⟨v,h1,h2⟩:=run_res1 hT hi hr;obtain ⟨vs,k1,k2,k3,k4⟩:=run_resL hT hi rs ys hl;refine ⟨v::vs,by simp [k1],by simp [k2],fun j r' v' hj hv=>?_,fun j x' v' hj hv=>?_⟩
    ·cases j with
     |zero=>simp at hj hv;subst hj hv;exact h1
     |succ j=>simp at hj hv;exact k3 j r' v' hj hv
    ·cases j with
     |zero=>simp at hj hv;subst hj hv;exact h2
     |succ j=>simp at hj hv;exact k4 j x' v' hj hv
theorem run_resAV {C:Ctx}{T:TT}(hT:TOk C.P T){L:LS}{hd:Nm→Hd}{F:Nat→Prop}{a:Act}{w:World}(hi:Inv C L hd F a w){x:AV}(h:resAV T L C.fn.results.toList=some x) :
 ∃v,(results C.fn a.tmps).run C.P w = .ok v w∧Rep w F hd x v:=by
 unfold resAV at h;cases hr:resL T L C.fn.results.toList with
 |none=>rw [hr] at h;cases h
 |some xs=>
  rw [hr] at h;obtain ⟨vs,k1,k2,k3,k4⟩:=run_resL hT hi _ xs hr;have hrun:=run_mapM (P:=C.P) (rsem a.tmps) w _ vs k1 k3;have hm:(results C.fn a.tmps).run C.P w = .ok (if h:vs.length=1 then vs[0] else .tuple vs.toArray) w:=by
   have hdef:results C.fn a.tmps=(do let vs ←C.fn.results.mapM (rsem a.tmps);pure (if h:vs.size=1 then vs[0] else .tuple vs)):=by
    unfold results;congr 1
   rw [hdef,Array.mapM_eq_mapM_toList];simp only [map_eq_pure_bind,bind_assoc,pure_bind,Sem.run_bind];rw [hrun];simp
  have hgoal:∀(vs:List Value),xs.length=vs.length→(∀(j:Nat) (x:AV) (v:Value),xs[j]?=some x→vs[j]?=some v→Rep w F hd x v)→Rep w F hd x (if h:vs.length=1 then vs[0]'(by omega) else .tuple vs.toArray):=by
   clear hm hrun k3 k1 k2 k4 hr;intro vs k2 k4;rcases xs with _|⟨y,_|⟨y',ys⟩⟩<;>rcases vs with _|⟨v,_|⟨v',vs⟩⟩<;>simp at k2
   ·simp only [Option.some.injEq] at h;subst h;exact .tup [] [] rfl (fun j c v hj=>by simp at hj)
   ·simp only [Option.some.injEq] at h;subst h;exact k4 0 y v rfl rfl
   ·simp only [Option.some.injEq] at h;subst h;simp only [List.length_cons,show ¬(vs.length+1+1=1) by omega,dite_false];exact .tup _ _ (by simp [k2]) k4
  exact ⟨_,hm,hgoal vs k2 k4⟩
def subH (L:LS):List (Nm × Option Blk)→Prop
 |[]=>True
 |(r,b)::l=>L.blk r=b∧subH L l
theorem subH_get {L:LS}:∀ {l:List (Nm × Option Blk)} {r:Nm},subH L l→lkH l r=L.blk r∨lkH l r=none
 |[],r,_=>.inr rfl
 |(k,v)::l,r,h=>by
  simp only [lkH];split
  ·rename_i e;rw [Nm.eqb_iff] at e;subst e;exact .inl h.1.symm
  ·exact subH_get h.2
structure Lies (w:World) (F:Nat→Prop) (hd:Nm→Hd) (H:List (Nm × Option Blk)):Prop where
 fin:∀k,F k→k<w.heap.size
 sep:∀r s k,r≠s→(hd r).owns k→¬(hd s).owns k
 mine:∀r k,(hd r).owns k→¬F k∧k<w.heap.size
 holds:∀r,HoldB w F hd r (lkH H r)
structure Left (w0:World) (F0:Nat→Prop) (hd0:Nm→Hd) (w:World) (F:Nat→Prop) (hd:Nm→Hd):Prop where
 mine:∀r k,(hd r).owns k→w0.heap.size≤k∨∃s,(hd0 s).owns k
 fin:∀k,F k→F0 k∨w0.heap.size≤k∨∃s,(hd0 s).owns k
 more:∀k,F0 k→F k
 kept:∀i,hd (.arg i)=hd0 (.arg i)∨hd (.arg i) = .dead
 os:w.os=w0.os
 tape:w.tape=w0.tape
 output:w.output=w0.output
 size:w0.heap.size≤w.heap.size
 old:∀k,k<w0.heap.size→(¬∃s,(hd0 s).owns k)→w.heap[k]?=w0.heap[k]?
def ownR (w0:World)(F0:Nat→Prop)(hd0:Nm→Hd)(post:List (Nm × Option Blk))(v:AV)(e:Ending)(w:World):Prop:=
 ∃cv F hd,e = .returned cv∧Rep w F hd v cv∧Lies w F hd post∧Left w0 F0 hd0 w F hd
def ownE (P:Program)(f:FuncId)(fn:Func)(w0:World)(F0:Nat→Prop)(hd0:Nm→Hd)(Gl:Granted)(R:Ending→World→Prop):Ctx:={ P,f,fn,w0,F0,hd0,Gl,R }
def ownC (P:Program)(f:FuncId)(fn:Func)(w0:World)(F0:Nat→Prop)(hd0:Nm→Hd)(Gl:Granted)(post:List (Nm × Option Blk))(v:AV):Ctx:=ownE P f fn w0 F0 hd0 Gl (ownR w0 F0 hd0 post v)
def keyed:Nat→List (Option Blk)→List (Nm × Option Blk)
 |_,[]=>[]
 |i,b::l=>(.arg i,b)::keyed (i+1) l
def ACalls (P:Program)(Gl:Granted)(f:FuncId)(args:List AV)(pre:List (Option Blk))(v:AV)(post:List (Option Blk)):Prop:=
 ∀(w0:World) (F0:Nat→Prop) (hd0:Nm→Hd) (cargs:List Value),Gl.p w0 F0→Lies w0 F0 hd0 (keyed 0 pre)→cargs.length=args.length→(∀(j:Nat) (x:AV) (c:Value),args[j]?=some x→cargs[j]?=some c→Rep w0 F0 hd0 x c)→
  Calls P f cargs.toArray w0 (ownR w0 F0 hd0 (keyed 0 post) v)
theorem own_end {P:Program}{f:FuncId}{fn:Func}{w0:World}{F0:Nat→Prop}{hd0:Nm→Hd}{Gl:Granted}{post:List (Nm × Option Blk)}{v:AV}{T:TT}(hT:TOk P T){L:LS}{x:AV}(h:resAV T L fn.results.toList=some x)(hv:x.frz (lkH post) L.blk=v)(hp:subH L post)
 {hd:Nm→Hd} {F:Nat→Prop} {a:Act} {w:World} (hi:Inv (ownC P f fn w0 F0 hd0 Gl post v) L hd F a w):∃c,(results fn a.tmps).run P w = .ok c w∧ownR w0 F0 hd0 post v (.returned c) w:=by
 obtain ⟨c,h1,h2⟩:=run_resAV (C:=ownC P f fn w0 F0 hd0 Gl post v) hT hi h;have hown:∀r k,(onlyHd (lkH post) hd r).owns k→(hd r).owns k:=fun r k hk=>by
  rcases onlyHd_or (lkH post) hd r with e|e
  ·exact e ▸ hk
  ·rw [e] at hk;exact hk.elim
 refine ⟨c,h1,c,plus (lkH post) F hd,onlyHd (lkH post) hd,rfl,hv ▸ frz_rep hi.blocks h2,⟨fun k hk=>?_,fun r s k hne h1 h2=>hi.sep r s k hne (hown r k h1) (hown s k h2),fun r k hk=>⟨?_,(hi.mine r k (hown r k hk)).2.1⟩,fun r=>?_⟩,
  ⟨fun r k hk=>(hi.mine r k (hown r k hk)).2.2,fun k hk=>?_,fun k hk=>.inl (hi.more k hk),fun i=>?_,hi.os,hi.tape,hi.output,hi.size,fun k hk hn=>hi.old k hk hn⟩⟩
 ·rcases hk with hk|⟨r,_,hr⟩
  ·exact (hi.fin k hk).1
  ·exact (hi.mine r k hr).2.1
 ·rintro (h|⟨s,hs,h⟩)
  ·exact (hi.mine r k (hown r k hk)).1 h
  ·have hne:r≠s:=fun e=>by subst e;simp only [onlyHd,hs] at hk;exact hk.elim
   exact hi.sep r s k hne (hown r k hk) h
 ·cases hl:lkH post r with
  |none=>simp [HoldB,onlyHd,hl]
  |some b=>
   have hlb:L.blk r=some b:=by
    rcases subH_get (r:=r) hp with e|e
    ·rw [←e,hl]
    ·rw [hl] at e;cases e
   have hb:=hi.blocks r;rw [hlb] at hb;exact hb.mono (fun _ _=>rfl) (fun _ h=>.inl h) (by simp [onlyHd,hl]) (fun _ _=>rfl) fun c hc s hs=>onlyHd_or _ _ s
 ·rcases hk with hk|⟨r,_,hr⟩
  ·exact (hi.fin k hk).2
  ·exact .inr (hi.mine r k hr).2.2
 ·rcases onlyHd_or (lkH post) hd (.arg i) with e|e
  ·rw [e];exact hi.kept i
  ·exact .inr e
theorem inv_own {P:Program}{f:FuncId}{fn:Func}{w0:World}{F0:Nat→Prop}{hd0:Nm→Hd}{Gl:Granted}{R R':Ending→World→Prop}{L:LS}{hd:Nm→Hd}{F:Nat→Prop}{a:Act}{w:World}(h:Inv (ownE P f fn w0 F0 hd0 Gl R) L hd F a w):Inv (ownE P f fn w0 F0 hd0 Gl R') L hd F a w:=
 ⟨h.slots,h.blocks,h.sep,h.mine,h.fin,h.more,h.kept,h.gl,h.os,h.tape,h.output,h.size,h.old,h.ntmps,h.defers⟩
theorem go_retE {P:Program}{f:FuncId}{fn:Func}{w0:World}{F0:Nat→Prop}{hd0:Nm→Hd}{Gl:Granted}{R:Ending→World→Prop}{post:List (Nm × Option Blk)}{v:AV}(hR:∀e w,ownR w0 F0 hd0 post v e w→R e w){T:TT}(hT:TOk P T)(hf:P.funcs[f]?=some fn){L:LS}{x:AV}(h:resAV T L fn.results.toList=some x)(hv:x.frz (lkH post) L.blk=v)
 (hp:subH L post):GoS (ownE P f fn w0 F0 hd0 Gl R) [] L∧∀k,GoS (ownE P f fn w0 F0 hd0 Gl R) (.code .ret::k) L:=by
 refine ⟨fun hd F a w hi cs=>?_,fun k hd F a w hi cs=>?_⟩
 ·obtain ⟨c,h1,h2⟩:=own_end (Gl:=Gl) hT h hv hp (inv_own hi);exact ⟨.returned c,w,_,hR _ _ h2,Steps.one step_end,rfl,rfl,hi.defers,rfl,fn,hf,h1⟩
 ·obtain ⟨c,h1,h2⟩:=own_end (Gl:=Gl) hT h hv hp (inv_own hi);exact ⟨.returned c,w,_,hR _ _ h2,Steps.one step_ret,rfl,rfl,hi.defers,rfl,fn,hf,h1⟩
theorem go_ret {P:Program}{f:FuncId}{fn:Func}{w0:World}{F0:Nat→Prop}{hd0:Nm→Hd}{Gl:Granted}{post:List (Nm × Option Blk)}{v:AV}{T:TT}(hT:TOk P T)(hf:P.funcs[f]?=some fn){k:List Item}{L:LS}{x:AV}(h:resAV T L fn.results.toList=some x)(hv:x.frz (lkH post) L.blk=v)
 (hp:subH L post):GoS (ownC P f fn w0 F0 hd0 Gl post v) (.code .ret::k) L:=(go_retE (fun _ _ h=>h) hT hf h hv hp).2 k
theorem go_done {P:Program}{f:FuncId}{fn:Func}{w0:World}{F0:Nat→Prop}{hd0:Nm→Hd}{Gl:Granted}{post:List (Nm × Option Blk)}{v:AV}{T:TT}(hT:TOk P T)(hf:P.funcs[f]?=some fn){L:LS}{x:AV}(h:resAV T L fn.results.toList=some x)(hv:x.frz (lkH post) L.blk=v)
 (hp:subH L post):GoS (ownC P f fn w0 F0 hd0 Gl post v) [] L:=(go_retE (fun _ _ h=>h) hT hf h hv hp).1
def startL:Nat→List AV→List (Nat × AV)
 |_,[]=>[]
 |n,x::l=>(n,x)::startL (n+1) l
theorem lkS_start:∀(l:List AV) (n t:Nat),lkS (startL n l) t=if n≤t then l.getD (t-n) .any else .any
 |[],n,t=>by simp [startL,lkS]
 |x::l,n,t=>by
  simp only [startL,lkS,lkS_start l (n+1) t];by_cases h:n=t
  ·subst h;simp
  ·by_cases h2:n+1≤t
   ·have h3:n≤t:=(by omega);rw [if_neg h,if_pos h2,if_pos h3,show t-n=(t-(n+1))+1 by omega];simp
   ·have h3:¬n≤t:=(by omega);rw [if_neg h,if_neg h2,if_neg h3]
def LS.start (args:List AV)(pre:List (Option Blk)):LS:=⟨startL 0 args,keyed 0 pre⟩
theorem own_callsE {P:Program}{Gl:Granted}{f:FuncId}{fn:Func}{c:Code}{args:List AV}{pre:List (Option Blk)}{R:World→(Nat→Prop)→(Nm→Hd)→Ending→World→Prop}(hf:P.funcs[f]?=some fn)(hb:fn.body=some c)(hn:args.length≤fn.ntmps)
 (h:∀w0 F0 hd0,GoS (ownE P f fn w0 F0 hd0 Gl (R w0 F0 hd0)) [.code c] (LS.start args pre)):∀(w0:World) (F0:Nat→Prop) (hd0:Nm→Hd) (cargs:List Value),Gl.p w0 F0→Lies w0 F0 hd0 (keyed 0 pre)→cargs.length=args.length→(∀(j:Nat) (x:AV) (c:Value),args[j]?=some x→cargs[j]?=some c→Rep w0 F0 hd0 x c)→
 Calls P f cargs.toArray w0 (R w0 F0 hd0):=by
 intro w0 F0 hd0 cargs hg hlies hl hr cs
 let b:Frame:={ (default:Frame) with fn:=f,kind:=.normal }
 have henter:Frame.enter P f cargs.toArray .normal=b.at { tmps:=cargs.toArray++Array.replicate (fn.ntmps-cargs.toArray.size) undef,defers:=[] } [.code c]:=by
  simp [Frame.enter,Frame.at,hf,hb,b]
 rw [henter];refine h w0 F0 hd0 hd0 F0 _ w0 ?_ cs;refine { slots:=fun t=>?_,blocks:=hlies.holds,sep:=hlies.sep,mine:=fun r k h=>⟨(hlies.mine r k h).1,(hlies.mine r k h).2,.inr ⟨r,h⟩⟩,fin:=fun k hk=>⟨hlies.fin k hk,.inl hk⟩,more:=fun _ h=>h,kept:=fun i=>.inl rfl,gl:=hg,os:=rfl,tape:=rfl,output:=rfl,size:=Nat.le_refl _,old:=fun _ _ _=>rfl,ntmps:=?_,defers:=rfl }
 ·simp only [LS.start,LS.get,lkS_start,Nat.zero_le,if_true,Nat.sub_zero];cases ht:args[t]? with
  |none=>simp only [List.getD_eq_getElem?_getD,ht,Option.getD_none];exact .any _
  |some x=>
   have hlt:t<cargs.length:=(by rw [hl];exact (List.getElem?_eq_some_iff.1 ht).1);simp only [List.getD_eq_getElem?_getD,ht,Option.getD_some];have:=hr t x cargs[t] ht (List.getElem?_eq_getElem hlt);simpa [Array.getD_eq_getD_getElem?,Array.getElem?_append_left,hlt] using this
 ·simp [ownE];omega
theorem own_calls {P:Program}{Gl:Granted}{f:FuncId}{fn:Func}{c:Code}{args:List AV}{pre:List (Option Blk)}{post:List (Nm × Option Blk)}{v:AV}(hf:P.funcs[f]?=some fn)(hb:fn.body=some c)(hn:args.length≤fn.ntmps)
 (h:∀w0 F0 hd0,GoS (ownC P f fn w0 F0 hd0 Gl post v) [.code c] (LS.start args pre)):∀(w0:World) (F0:Nat→Prop) (hd0:Nm→Hd) (cargs:List Value),Gl.p w0 F0→Lies w0 F0 hd0 (keyed 0 pre)→cargs.length=args.length→(∀(j:Nat) (x:AV) (c:Value),args[j]?=some x→cargs[j]?=some c→Rep w0 F0 hd0 x c)→
 Calls P f cargs.toArray w0 (ownR w0 F0 hd0 post v):=own_callsE (R:=fun w0 F0 hd0=>ownR w0 F0 hd0 post v) hf hb hn h
theorem acalls_of {P:Program}{Gl:Granted}{f:FuncId}{fn:Func}{c:Code}{args:List AV}{pre post:List (Option Blk)}{v:AV}(hf:P.funcs[f]?=some fn)(hb:fn.body=some c)(hn:args.length≤fn.ntmps)
 (h:∀w0 F0 hd0,GoS (ownC P f fn w0 F0 hd0 Gl (keyed 0 post) v) [.code c] (LS.start args pre)):ACalls P Gl f args pre v post:=
 own_calls hf hb hn h
end Go.Abs
namespace Go.Abs
open Go.RowKit
theorem inv_upd {C:Ctx}{L:LS}{hd:Nm→Hd}{F:Nat→Prop}{a:Act}{w w':World}(hi:Inv C L hd F a w)(ups:List (Nm × Option Blk))(hd':Nm→Hd)(wr:Nat→Prop)
 (hos:w'.os=w.os) (htape:w'.tape=w.tape) (hout:w'.output=w.output) (hsize:w.heap.size≤w'.heap.size)
 (hsame:∀k,k<w.heap.size→¬wr k→w'.heap[k]?=w.heap[k]?) (hown:∀k,wr k→∃r,(hd r).owns k)
 (hstay:∀s,s∉ups.map (·.1)→hd' s=hd s∧∀k,(hd s).owns k→¬wr k) (hups:∀s b,upsGet ups s=some b→HoldB w' F hd' s b)
 (hment:∀s,s∈ups.map (·.1)→hd' s=hd s∨hd' s = .dead∨(L.Fresh s∧∀i,s≠.arg i))
 (hsep:∀r s k,r≠s→(hd' r).owns k→¬(hd' s).owns k) (hmine:∀r k,(hd' r).owns k→((∃s,(hd s).owns k)∨w.heap.size≤k)∧k<w'.heap.size):Inv C (L.upd ups) hd' F a w':=by
 have hF:∀k,F k→w'.heap[k]?=w.heap[k]?:=fun k hk=>hsame k (hi.fin k hk).1 fun hw=>by
  obtain ⟨r,hr⟩:=hown k hw;exact (hi.mine r k hr).1 hk
 have href:∀s,¬L.Fresh s→hd' s=hd s∨hd' s = .dead:=fun s hs=>by
  by_cases hm:s∈ups.map (·.1)
  ·rcases hment s hm with h|h|h
   ·exact .inl h
   ·exact .inr h
   ·exact absurd h.1 hs
  ·exact .inl (hstay s hm).1
 refine { slots:=fun t=>?_,blocks:=fun r=>?_,sep:=hsep,mine:=fun r k hk=>?_,fin:=fun k hk=>?_,more:=hi.more,kept:=fun i=>?_,gl:=C.Gl.mono hi.gl hF (fun _ h=>h),os:=hos.trans hi.os,tape:=htape.trans hi.tape,output:=hout.trans hi.output,size:=Nat.le_trans hi.size hsize,old:=fun k hk hm=>?_,ntmps:=hi.ntmps,defers:=hi.defers }
 ·have:(L.upd ups).get t=L.get t:=by simp [LS.get,upd_blk]
  rw [this];exact (hi.slots t).mono hF (fun _ h=>h) fun r hr=>href r fun hf=>hf.1 t hr
 ·rw [upd_get];by_cases hr:r∈ups.map (·.1)
  ·cases hu:upsGet ups r with
   |none=>
    exfalso;clear hups hment hstay;induction ups with
    |nil=>simp at hr
    |cons x l ih=>
     obtain ⟨k,b⟩:=x;simp only [upsGet] at hu;cases hl:upsGet l r with
     |some y=>rw [hl] at hu;cases hu
     |none=>
      rw [hl] at hu;by_cases hk:k=r
      ·simp [hk] at hu
      ·rcases List.mem_cons.1 hr with h|h
       ·exact hk h.symm
       ·exact ih h hl
   |some b=>exact hups r b hu
  ·rw [upsGet_none hr];simp only [Option.getD_none];obtain ⟨h1,h2⟩:=hstay r hr;refine (hi.blocks r).mono hF (fun _ h=>h) h1 (fun k hk=>hsame k (hi.mine r k hk).2.1 (h2 k hk)) fun c hc s hs=>href s fun hf=>hf.2 r c hc hs
 ·obtain ⟨h1,h2⟩:=hmine r k hk;rcases h1 with ⟨s,hs⟩|h1
  ·obtain ⟨q1,q2,q3⟩:=hi.mine s k hs;exact ⟨q1,h2,q3⟩
  ·exact ⟨fun hk'=>by have:=(hi.fin k hk').1;omega,h2,.inl (Nat.le_trans hi.size h1)⟩
 ·obtain ⟨q1,q2⟩:=hi.fin k hk;exact ⟨by omega,q2⟩
 ·have:hd' (.arg i)=hd (.arg i)∨hd' (.arg i) = .dead:=by
   by_cases hm:Nm.arg i∈ups.map (·.1)
   ·rcases hment _ hm with h|h|h
    ·exact .inl h
    ·exact .inr h
    ·exact absurd rfl (h.2 i)
   ·exact .inl (hstay _ hm).1
  rcases this with e|e
  ·rw [e];exact hi.kept i
  ·exact .inr e
 ·rw [←hi.old k hk hm];refine hsame k (Nat.lt_of_lt_of_le hk hi.size) fun hw=>?_;obtain ⟨r,hr⟩:=hown k hw;rcases (hi.mine r k hr).2.2 with h|h
  ·omega
  ·exact hm h
theorem sem1_of {C:Ctx}{o:Oper}{ev:Operand→AV}{fp:List (Nm × Blk)}{A:Actn}(hdst:∀d,o.dst=some d→d<C.fn.ntmps)
 (h:∀(L:LS) (hd:Nm→Hd) (F:Nat→Prop) (a:Act) (w:World),(∀x∈o.op.operands.toList,Rep w F hd (ev x) (a.eval x))→(∀p∈fp,L.blk p.1=some p.2)→(∀r∈news fp A.ups,L.blk r=none∧L.Fresh r)→Inv C L hd F a w→
   ∃v w' hd' F',((execOp a.eval o).run C.P w = .ok (.value v) w'∨((execOp a.eval o).run C.P w = .ok .skip w'∧v=undef))∧Inv C (L.upd A.ups) hd' F' a w'∧Rep w' F' hd' A.v v):Sem1 C o ev fp A:=by
 intro L hd F a w h1 h2 h3 hi K Q hK;obtain ⟨v,w',hd',F',hrun,hinv,hrep⟩:=h L hd F a w (fun x hx=>by rw [←h1 x hx];exact ev_rep hi x) h2 h3 hi;have hput:Inv C (L.app o.dst A) hd' F' (a.put o.dst v) w':=hinv.put o.dst hrep hdst;unfold Oper.wp;rcases hrun with hrun|⟨hrun,rfl⟩
 ·rw [hrun];exact hK _ _ _ _ hput
 ·rw [hrun];exact hK _ _ _ _ hput
theorem sem1_read {C:Ctx}{o:Oper}{ev:Operand→AV}{fp:List (Nm × Blk)}{x:AV}(hdst:∀d,o.dst=some d→d<C.fn.ntmps)
 (h:∀(L:LS) (hd:Nm→Hd) (F:Nat→Prop) (a:Act) (w:World),(∀y∈o.op.operands.toList,Rep w F hd (ev y) (a.eval y))→(∀p∈fp,L.blk p.1=some p.2)→Inv C L hd F a w→
   ∃v,(execOp a.eval o).run C.P w = .ok (.value v) w∧Rep w F hd x v):Sem1 C o ev fp ⟨x,[]⟩:=
 sem1_of hdst fun L hd F a w h1 h2 _ hi=>by
  obtain ⟨v,hr,hx⟩:=h L hd F a w h1 h2 hi;exact ⟨v,w,hd,F,.inl hr,hi,hx⟩
inductive SR where
 |act (fp:List (Nm × Blk)) (A:Actn) (p:Prop)
 |stop
def SRok (C:Ctx)(o:Oper)(L:LS):SR→Prop
 |.act fp A p=>p→Sem1 C o L.ev fp A∧(∀q∈fp,L.blk q.1=some q.2)∧∀r∈news fp A.ups,L.blk r=none∧L.Fresh r∧r∈mayMake1 o
 |.stop=>True
theorem SRok.read {C:Ctx}{o:Oper}{L:LS}{x:AV}{p:Prop}(h:p→Sem1 C o L.ev [] ⟨x,[]⟩):SRok C o L (.act [] ⟨x,[]⟩ p):=fun hp=>⟨h hp,by simp,by simp [news]⟩
theorem SRok.read1 {C:Ctx}{o:Oper}{L:LS}{x:AV}{p:Prop}{r:Nm}{b:Blk}(hb:L.blk r=some b)(h:p→Sem1 C o L.ev [(r,b)] ⟨x,[]⟩):SRok C o L (.act [(r,b)] ⟨x,[]⟩ p):=
 fun hp=>⟨h hp,by simpa using hb,by simp [news]⟩
theorem rep_val {w:World}{F:Nat→Prop}{hd:Nm→Hd}{u:Value}(h:u.oneCell'=true):Rep w F hd (.pv (.val u)) u:=.pv _ _ (.val u h)
def stMove (L:LS)(x:Operand):SR:=.act [] ⟨L.ev x,[]⟩ True
theorem stMove_ok {C:Ctx}{o:Oper}{L:LS}{x:Operand}(hdst:∀d,o.dst=some d→d<C.fn.ntmps)(ho:o.op = .move x∨o.op = .assign x):SRok C o L (stMove L x):=by
 refine .read fun _=>sem1_read hdst fun L' hd F a w hev _ hi=>⟨a.eval x,?_,hev x ?_⟩
 ·rcases ho with h|h<;>simp [execOp,h]
 ·rcases ho with h|h<;>simp [h,Op.operands]
def stPick (L:LS)(c x y:Operand):SR:=match L.ev c with
 |.pv (.val (.bool true))=>.act [] ⟨L.ev x,[]⟩ True
 |.pv (.val (.bool false))=>.act [] ⟨L.ev y,[]⟩ True
 |_=>.stop
theorem stPick_ok {C:Ctx}{o:Oper}{L:LS}{c x y:Operand}(hdst:∀d,o.dst=some d→d<C.fn.ntmps)(ho:o.op = .pick c x y):SRok C o L (stPick L c x y):=by
 unfold stPick;split
 ·rename_i hc;refine .read fun _=>sem1_read hdst fun L' hd F a w hev _ hi=>⟨a.eval x,?_,hev x (by simp [ho,Op.operands])⟩;have:=hev c (by simp [ho,Op.operands]);rw [hc] at this;simp [execOp,ho,bool_of this,asBool]
 ·rename_i hc;refine .read fun _=>sem1_read hdst fun L' hd F a w hev _ hi=>⟨a.eval y,?_,hev y (by simp [ho,Op.operands])⟩;have:=hev c (by simp [ho,Op.operands]);rw [hc] at this;simp [execOp,ho,bool_of this,asBool]
 ·trivial
@[irreducible] def wr (k:IntKind)(n:Int):Int:=k.wrap n
theorem wr_eq (k:IntKind)(n:Int):wr k n=k.wrap n:=by unfold wr;rfl
@[irreducible] def bw (op:BinOp)(k:IntKind)(x y:Int):Int:=k.wrap (match op with
 |.and=>(BitVec.ofInt k.bits x &&& BitVec.ofInt k.bits y).toNat
 |.or=>(BitVec.ofInt k.bits x ||| BitVec.ofInt k.bits y).toNat
 |.xor=>(BitVec.ofInt k.bits x ^^^ BitVec.ofInt k.bits y).toNat
 |_=>(BitVec.ofInt k.bits x &&& ~~~(BitVec.ofInt k.bits y)).toNat:Nat)
theorem bw_eq (op:BinOp)(k:IntKind)(x y:Int):bw op k x y=k.wrap (match op with
 |.and=>(BitVec.ofInt k.bits x &&& BitVec.ofInt k.bits y).toNat
 |.or=>(BitVec.ofInt k.bits x ||| BitVec.ofInt k.bits y).toNat
 |.xor=>(BitVec.ofInt k.bits x ^^^ BitVec.ofInt k.bits y).toNat
 |_=>(BitVec.ofInt k.bits x &&& ~~~(BitVec.ofInt k.bits y)).toNat:Nat):=by unfold bw;rfl
def abin (op:BinOp)(x y:Value):Option (Value × Prop):=match x,y with
 |.int k a,.int k' b=>if k=k' then match op with
   |.add=>some (.int k (wr k (a+b)),True)
   |.sub=>some (.int k (wr k (a-b)),True)
   |.mul=>some (.int k (wr k (a*b)),True)
   |.quo=>some (.int k (wr k (a.tdiv b)),b≠0)
   |.rem=>some (.int k (a.tmod b),b≠0)
   |.and=>some (.int k (bw .and k a b),True)
   |.or=>some (.int k (bw .or k a b),True)
   |.xor=>some (.int k (bw .xor k a b),True)
   |.andNot=>some (.int k (bw .andNot k a b),True)
   |.eql=>some (.bool (decide (a=b)),True)
   |.neq=>some (.bool (!decide (a=b)),True)
   |.lss=>some (.bool (decide (a<b)),True)
   |.leq=>some (.bool (decide (a≤b)),True)
   |.gtr=>some (.bool (decide (a > b)),True)
   |.geq=>some (.bool (decide (a≥b)),True)
   |_=>none
  else none
 |.string a,.string b=>match op with
   |.add=>some (.string (a++b),a.size+b.size≤9223372036854775807)
   |.eql=>some (.bool (decide (a=b)),True)
   |.neq=>some (.bool (!decide (a=b)),True)
   |.lss=>some (.bool (Op.bytesLess a.toList b.toList),True)
   |.leq=>some (.bool (Op.bytesLess a.toList b.toList || decide (a=b)),True)
   |.gtr=>some (.bool (!(Op.bytesLess a.toList b.toList || decide (a=b))),True)
   |.geq=>some (.bool (!(Op.bytesLess a.toList b.toList)),True)
   |_=>none
 |_,_=>none
theorem beq_toList (a b:ByteArray):(a.toList == b.toList)=decide (a=b):=by
 by_cases h:a=b
 ·subst h;simp
 ·have:¬a.toList=b.toList:=fun e=>h (by
   rw [ByteArray.toList_eq,ByteArray.toList_eq] at e;cases a;cases b;congr 1;exact Array.toList_inj.1 e)
  simp [h,this]
theorem beq_int (a b:Int):(a == b)=decide (a=b):=rfl
theorem bne_int (a b:Int):(a != b) = !decide (a=b):=rfl
theorem abin_ok {P:Program}{op:BinOp}{t:TypeId}{x y:Operand}{u v r:Value}{p:Prop}(h:abin op u v=some (r,p))(hp:p)(w:World) :
 (do eqGuard op t x y u v;binOp op t u v).run P w = .ok r w∧r.oneCell'=true:=by
 cases u<;>cases v<;>simp only [abin,reduceCtorEq] at h
 ·rename_i k a k' b;by_cases hk:k=k'
  ·subst hk;simp only [if_true] at h;rw [eqGuard_at_int];cases op<;>simp only [reduceCtorEq,Option.some.injEq,Prod.mk.injEq] at h<;>obtain ⟨rfl,rfl⟩:=h <;>
    (try simp only [wr_eq,bw_eq])<;>first
      |(simp [binOp,Op.intCmp,Value.oneCell',beq_int,bne_int];done)
      |(simp [binOp,Op.intCmp,Value.oneCell'];rfl)
      |(simp [binOp,Op.intArith,Value.oneCell'];done)
      |(simp [binOp,Op.intDiv,Value.oneCell',hp];done)
      |(simp [binOp,Op.intBits,Value.oneCell'];done)
  ·simp [hk] at h
 ·rename_i a b;rw [eqGuard_at_string];cases op<;>simp only [reduceCtorEq,Option.some.injEq,Prod.mk.injEq] at h<;>obtain ⟨rfl,rfl⟩:=h
  ·have:¬(((a.size+b.size:Nat):Int) > 9223372036854775807):=(by omega);simp only [binOp,Op.stringOp,pure_bind,IntKind.max_i64,if_neg this];simp [Value.oneCell']
  all_goals simp [binOp,Op.stringOp,Value.oneCell',beq_toList]
def isBoolT (T:TT)(t:Nat):Bool:=match lkT T t with
 |some i=>match i.und with | .bool=>true|_=>false
 |none=>false
theorem run_equalIn_bool {P:Program}(d:Nat){t:Nat}(hu:P.underlying t=some .bool)(a b:Bool)(w:World):(Op.equalIn (d+1) t (.bool a) (.bool b)).run P w = .ok (a == b) w:=by
 rw [Op.equalIn];simp [run_underlying hu]
theorem run_equal_bool {P:Program}{T:TT}(hT:TOk P T){t:Nat}(h:isBoolT T t=true)(a b:Bool)(w:World):(Op.equal t (.bool a) (.bool b)).run P w = .ok (a == b) w:=by
 unfold isBoolT at h;cases hl:lkT T t with
 |none=>rw [hl] at h;cases h
 |some i=>
  rw [hl] at h;dsimp only at h;have hu:=(lkT_ok hT hl).und;cases hi:i.und<;>rw [hi] at h hu<;>simp only [Bool.false_eq_true] at h
  exact run_equalIn_bool 9999 hu a b w
def stBin (T:TT)(L:LS)(op:BinOp)(t:Nat)(x y:Operand):SR:=match L.ev x,L.ev y with
 |.pv (.val (.bool a)),.pv (.val (.bool b))=>if isBoolT T t=true then match op with
  |.eql=>.act [] ⟨.pv (.val (.bool (a == b))),[]⟩ True
  |.neq=>.act [] ⟨.pv (.val (.bool (!(a == b)))),[]⟩ True
  |_=>.stop
  else .stop
 |.pv (.val u),.pv (.val v)=>match abin op u v with
  |some (r,p)=>.act [] ⟨.pv (.val r),[]⟩ p
  |none=>.stop
 |_,_=>.stop
theorem stBin_ok {C:Ctx}{T:TT}(hT:TOk C.P T){o:Oper}{L:LS}{op:BinOp}{t ty:TypeId}{x y:Operand}(hdst:∀d,o.dst=some d→d<C.fn.ntmps)(ho:o.op = .binOp op t x y ty):SRok C o L (stBin T L op t x y):=by
 unfold stBin;split
 ·rename_i p q hx hy;split
  ·rename_i hbt;have hb:=run_equal_bool hT hbt;have key:∀(op':BinOp) (r:Bool),op=op'→(∀w,(eqGuard op' t x y (.bool p) (.bool q)).run C.P w = .ok () w)→(∀w,(binOp op' t (.bool p) (.bool q)).run C.P w = .ok (.bool r) w)→SRok C o L (.act [] ⟨.pv (.val (.bool r)),[]⟩ True):=by
    intro op' r he hg hrun;subst he;refine .read fun _=>sem1_read hdst fun L' hd F a w hev _ hi=>⟨_,?_,rep_val rfl⟩;have h1:=hev x (by simp [ho,Op.operands]);have h2:=hev y (by simp [ho,Op.operands]);rw [hx] at h1;rw [hy] at h2;simp [execOp,ho,bool_of h1,bool_of h2,hg w,hrun w]
   split
   ·exact key .eql _ rfl (fun w=>by rw [eqGuard_at_bool];rfl) fun w=>by simp [binOp,hb]
   ·exact key .neq _ rfl (fun w=>by rw [eqGuard_at_bool];rfl) fun w=>by simp [binOp,hb]
   ·trivial
  ·trivial
 ·rename_i u v _ hx hy;split
  ·rename_i r p he;refine .read fun hp=>sem1_read hdst fun L' hd F a w hev _ hi=>?_;have h1:=hev x (by simp [ho,Op.operands]);have h2:=hev y (by simp [ho,Op.operands]);rw [hx] at h1;rw [hy] at h2;obtain ⟨q1,q2⟩:=abin_ok (P:=C.P) (t:=t) (x:=x) (y:=y) he hp w;refine ⟨r,?_,rep_val q2⟩;simp only [execOp,ho,bool_of h1,bool_of h2,Sem.run_bind] at q1 ⊢;rw [q1];rfl
  ·trivial
 ·trivial
def stUn (L:LS)(op:UnOp)(x:Operand):SR:=match L.ev x,op with
 |.pv (.val (.bool a)),.not=>.act [] ⟨.pv (.val (.bool (!a))),[]⟩ True
 |.pv (.val (.int k n)),.neg=>.act [] ⟨.pv (.val (.int k (wr k (0-n)))),[]⟩ True
 |_,_=>.stop
theorem stUn_ok {C:Ctx}{o:Oper}{L:LS}{op:UnOp}{t:TypeId}{x:Operand}(hdst:∀d,o.dst=some d→d<C.fn.ntmps)(ho:o.op = .unOp op t x):SRok C o L (stUn L op x):=by
 unfold stUn;split
 ·rename_i hx;refine .read fun _=>sem1_read hdst fun L' hd F a w hev _ hi=>⟨_,?_,rep_val rfl⟩;have h1:=hev x (by simp [ho,Op.operands]);rw [hx] at h1;simp [execOp,ho,bool_of h1,Op.unary]
 ·rename_i hx;refine .read fun _=>sem1_read hdst fun L' hd F a w hev _ hi=>⟨_,?_,rep_val rfl⟩;have h1:=hev x (by simp [ho,Op.operands]);rw [hx] at h1;simp [execOp,ho,bool_of h1,Op.unary,Op.intArith,wr_eq]
 ·trivial
def sliceE (T:TT)(t:Nat):Option Nat:=match lkT T t with
 |some i=>match i.und with | .slice e=>some e|_=>none
 |none=>none
theorem sliceE_ok {P:Program}{T:TT}(hT:TOk P T){t e:Nat}(h:sliceE T t=some e):P.underlying t=some (.slice e):=by
 unfold sliceE at h;cases hl:lkT T t with
 |none=>rw [hl] at h;cases h
 |some i=>
  rw [hl] at h;dsimp only at h;have hu:=(lkT_ok hT hl).und;cases hi:i.und<;>rw [hi] at h hu<;>simp only [Option.some.injEq,reduceCtorEq] at h
  subst h;exact hu
def intK (T:TT)(t:Nat):Option IntKind:=match lkT T t with
 |some i=>match i.und with | .int k=>some k|_=>none
 |none=>none
theorem intK_ok {P:Program}{T:TT}(hT:TOk P T){t:Nat}{k:IntKind}(h:intK T t=some k):P.underlying t=some (.int k):=by
 unfold intK at h;cases hl:lkT T t with
 |none=>rw [hl] at h;cases h
 |some i=>
  rw [hl] at h;dsimp only at h;have hu:=(lkT_ok hT hl).und;cases hi:i.und<;>rw [hi] at h hu<;>simp only [Option.some.injEq,reduceCtorEq] at h
  subst h;exact hu
def isStrT (T:TT)(t:Nat):Bool:=match lkT T t with
 |some i=>match i.und with | .string=>true|_=>false
 |none=>false
theorem isStrT_ok {P:Program}{T:TT}(hT:TOk P T){t:Nat}(h:isStrT T t=true):P.underlying t=some .string:=by
 unfold isStrT at h;cases hl:lkT T t with
 |none=>rw [hl] at h;cases h
 |some i=>
  rw [hl] at h;dsimp only at h;have hu:=(lkT_ok hT hl).und;cases hi:i.und<;>rw [hi] at h hu<;>simp only [Bool.false_eq_true] at h
  exact hu
def fieldT (T:TT)(t f:Nat):Option (Nat × Nat):=match lkT T t with
 |some i=>match i.und with | .str fs=>fs[f]? | _=>none
 |none=>none
theorem fieldT_ok {P:Program}{T:TT}(hT:TOk P T){t f off ty:Nat}(h:fieldT T t f=some (off,ty)):∃d fd,P.underlying t=some (.struct d)∧d[f]?=some fd∧fd.offset=off∧fd.type=ty:=by
 unfold fieldT at h;cases hl:lkT T t with
 |none=>rw [hl] at h;cases h
 |some i=>
  rw [hl] at h;dsimp only at h;have hu:=(lkT_ok hT hl).und;cases hi:i.und<;>rw [hi] at h hu<;>simp only [reduceCtorEq] at h
  obtain ⟨d,h1,h2⟩:=hu;rw [←h2,List.getElem?_map] at h;cases hd:d.toList[f]? with
  |none=>rw [hd] at h;cases h
  |some fd=>
   rw [hd] at h;simp only [Option.map_some,Option.some.injEq,Prod.mk.injEq] at h;exact ⟨d,fd,h1,by simpa using hd,h.1,h.2⟩
def stConv (T:TT)(L:LS)(s d:Nat)(x:Operand):SR:=match L.ev x with
 |.pv (.val (.int _ n))=>match intK T s with
  |some _=>match intK T d with
   |some k=>.act [] ⟨.pv (.val (.int k (wr k n))),[]⟩ True
   |none=>if isStrT T d=true then .act [] ⟨.pv (.val (.string (Utf8.encode n))),[]⟩ True else .stop
  |none=>.stop
 |.pv (.val (.string u))=>if isStrT T s=true then (if isStrT T d=true then .act [] ⟨.pv (.val (.string u)),[]⟩ True else .stop) else .stop
 |_=>.stop
theorem stConv_ok {C:Ctx}{T:TT}(hT:TOk C.P T){o:Oper}{L:LS}{s d:TypeId}{x:Operand}(hdst:∀d,o.dst=some d→d<C.fn.ntmps)(ho:o.op = .convert s d x):SRok C o L (stConv T L s d x):=by
 unfold stConv;split
 ·rename_i hx;split
  ·rename_i k' h1;split
   ·rename_i k h2;refine .read fun _=>sem1_read hdst fun L' hd F a w hev _ hi=>⟨_,?_,rep_val rfl⟩;have h3:=hev x (by simp [ho,Op.operands]);rw [hx] at h3;simp [execOp,ho,bool_of h3,convert,run_underlying (intK_ok hT h1),run_underlying (intK_ok hT h2),Conv.intToInt,wr_eq]
   ·split
    ·rename_i h2;refine .read fun _=>sem1_read hdst fun L' hd F a w hev _ hi=>⟨_,?_,rep_val rfl⟩;have h3:=hev x (by simp [ho,Op.operands]);rw [hx] at h3;simp [execOp,ho,bool_of h3,convert,run_underlying (intK_ok hT h1),run_underlying (isStrT_ok hT h2),Conv.intToString]
    ·trivial
  ·trivial
 ·rename_i hx;split
  ·rename_i h1;split
   ·rename_i h2;refine .read fun _=>sem1_read hdst fun L' hd F a w hev _ hi=>⟨_,?_,rep_val rfl⟩;have h3:=hev x (by simp [ho,Op.operands]);rw [hx] at h3;simp [execOp,ho,bool_of h3,convert,run_underlying (isStrT_ok hT h1),run_underlying (isStrT_ok hT h2)]
   ·trivial
  ·trivial
 ·trivial
end Go.Abs
namespace Go.Abs
open Go.RowKit
def AV.cellsOf:AV→Option (List AV)
 |.agg l=>some l
 |.tup _=>none
 |.any=>none
 |x=>some [x]
theorem cellsOf_rep {w:World}{F:Nat→Prop}{hd:Nm→Hd}{x:AV}{v:Value}(h:Rep w F hd x v){l:List AV}(hl:x.cellsOf=some l) :
 v.cells.size=l.length∧(∀(j:Nat) (c:AV) (u:Value),l[j]?=some c→v.cells[j]?=some u→Rep w F hd c u)∧∀u∈v.cells.toList,u.oneCell'=true:=by
 have one:∀(x:AV) (v:Value),Rep w F hd x v→v.oneCell'=true→v.cells.size = [x].length∧(∀(j:Nat) (c:AV) (u:Value),[x][j]?=some c→v.cells[j]?=some u→Rep w F hd c u)∧∀u∈v.cells.toList,u.oneCell'=true:=by
  intro x v h h1;have:v.cells = #[v]:=by cases v<;>first|rfl|simp [Value.oneCell'] at h1
  rw [this];refine ⟨rfl,fun j c u hj hu=>?_,by simp [h1]⟩;cases j with
  |zero=>simp at hj hu;subst hj hu;exact h
  |succ j=>simp at hj
 cases h with
 |pv p v hp=>simp only [AV.cellsOf,Option.some.injEq] at hl;subst hl;exact one _ _ (.pv p v hp) hp.one
 |agg l' cs h1 h2 h3=>
  simp only [AV.cellsOf,Option.some.injEq] at hl;subst hl;exact ⟨by simpa [Value.cells] using h1,fun j c u hj hu=>h2 j c u hj (by simpa [Value.cells] using hu),by simpa [Value.cells] using h3⟩
 |tup=>simp [AV.cellsOf] at hl
 |own r v h1 h2=>simp only [AV.cellsOf,Option.some.injEq] at hl;subst hl;exact one _ _ (.own r v h1 h2) h1
 |ptr r o v h1 h2=>simp only [AV.cellsOf,Option.some.injEq] at hl;subst hl;exact one _ _ (.ptr r o v h1 h2) h1
 |ept r sz i f v h1 h2=>simp only [AV.cellsOf,Option.some.injEq] at hl;subst hl;exact one _ _ (.ept r sz i f v h1 h2) h1
 |rop cs ad u a b c d=>simp only [AV.cellsOf,Option.some.injEq] at hl;subst hl;exact one _ _ (.rop cs ad u a b c d) rfl
 |fn f a b va vb q1 q2 q3 q4=>simp only [AV.cellsOf,Option.some.injEq] at hl;subst hl;exact one _ _ (.fn f a b va vb q1 q2 q3 q4) rfl
 |hmap r v h1 h2=>simp only [AV.cellsOf,Option.some.injEq] at hl;subst hl;exact one _ _ (.hmap r v h1 h2) h1
 |rom Q k o h1 h2 h3=>simp only [AV.cellsOf,Option.some.injEq] at hl;subst hl;exact one _ _ (.rom Q k o h1 h2 h3) rfl
 |opq Q v h1 h2=>simp only [AV.cellsOf,Option.some.injEq] at hl;subst hl;exact one _ _ (.opq Q v h1 h2) h1
 |any=>simp [AV.cellsOf] at hl
theorem add_plain (g j:Nat):(⟨g,0,none⟩:Addr).add j=⟨g,j,none⟩:=by unfold Addr.add;split<;>simp_all
theorem add_at (g o j:Nat):(⟨g,o,none⟩:Addr).add j=⟨g,o+j,none⟩:=by unfold Addr.add;split<;>simp_all
theorem cell_at {w:World}{k j:Nat}{arr:Array Value}{ty:TypeId}{fr:Nat × Nat}(h:w.heap[k]?=some (.cells arr ty fr)):w.cell? ⟨k,j,none⟩=arr[j]?:=by simp [World.cell?,h]
theorem inv_new {C:Ctx}{L:LS}{hd:Nm→Hd}{F:Nat→Prop}{a:Act}{w:World}(hi:Inv C L hd F a w){r:Nm}(hna:∀i,r≠.arg i)(hb:L.blk r=none)(hf:L.Fresh r){v:Value}{cs:List AV}(ty:TypeId)
 (h1:v.cells.size=cs.length) (h2:∀(j:Nat) (c:AV) (u:Value),cs[j]?=some c→v.cells[j]?=some u→Rep w F hd c u) (h3:∀u∈v.cells.toList,u.oneCell'=true) (hm:r∉AV.ments.mentsL cs) :
 ∃hd',Inv C (L.upd [(r,some (.box ty cs))]) hd' F a (w.alloc (.cells v.cells ty))∧Rep (w.alloc (.cells v.cells ty)) F hd' (.ptr r 0) (.pointer (some ⟨w.heap.size,0,none⟩)):=by
 have hdead:hd r = .dead:=by have:=hi.blocks r;rw [hb] at this;exact this
 have hold:∀k,k<w.heap.size→(w.alloc (.cells v.cells ty)).heap[k]?=w.heap[k]?:=fun k hk=>Below.heap_alloc _ _ _ hk;refine ⟨fun s=>if s=r then .box w.heap.size else hd s,inv_upd hi _ _ (fun _=>False) rfl rfl rfl (by simp) (fun k hk _=>hold k hk) (fun k h=>h.elim) (fun s hs=>?_) (fun s b hs=>?_) (fun s hs=>?_) (fun r' s k hne h1 h2=>?_) (fun r' k hk=>?_),?_⟩
 ·have:s≠r:=fun e=>hs (by simp [e]);simp [this]
 ·by_cases hsr:s=r
  ·subst hsr;simp only [upsGet,if_true,Option.some.injEq] at hs;subst hs;refine ⟨w.heap.size,v.cells,by simp,heap_alloc_new w _,h1,fun j c u hj hu=>?_,h3⟩;refine (h2 j c u hj hu).mono (fun k hk=>hold k (hi.fin k hk).1) (fun _ h=>h) fun q hq=>?_;have:q≠s:=fun e=>hm (e ▸ mem_mentsL hj hq);simp [this]
  ·have:r≠s:=fun e=>hsr e.symm;simp [upsGet,this] at hs
 ·simp at hs;subst hs;exact .inr (.inr ⟨hf,hna⟩)
 ·by_cases e1:r'=r
  ·by_cases e2:s=r
   ·exact hne (e1.trans e2.symm)
   ·rw [if_pos e1] at h1;rw [if_neg e2] at h2;have:=(hi.mine s k h2).2.1;have h1:w.heap.size=k:=h1;omega
  ·rw [if_neg e1] at h1;by_cases e2:s=r
   ·rw [if_pos e2] at h2;have:=(hi.mine r' k h1).2.1;have h2:w.heap.size=k:=h2;omega
   ·rw [if_neg e2] at h2;exact hi.sep r' s k hne h1 h2
 ·by_cases e1:r'=r
  ·rw [if_pos e1] at hk;have hk:w.heap.size=k:=hk;exact ⟨.inr (by omega),by simp [←hk]⟩
  ·rw [if_neg e1] at hk;have:=(hi.mine r' k hk).2.1;exact ⟨.inl ⟨r',hk⟩,by simp;omega⟩
 ·exact .ptr r 0 _ rfl fun k hk=>by
   simp only [if_true] at hk;injection hk with hk
   rw [hk]
def newOk (L:LS)(r:Nm):Bool:=(match L.blk r with|none=>true|some _=>false)&&L.freshB r
theorem newOk_spec {L:LS}{r:Nm}(h:newOk L r=true):L.blk r=none∧L.Fresh r:=by
 simp only [newOk,Bool.and_eq_true] at h;refine ⟨?_,LS.fresh_of h.2⟩;cases hb:L.blk r with
 |none=>rfl
 |some b=>rw [hb] at h;simp at h
def stBox (L:LS)(dst:Option Nat)(t:Nat)(x:Operand):SR:=match dst with
 |some d=>match (L.ev x).cellsOf with
  |some cs=>if newOk L (.loc d)=true then (if notIn (.loc d) (AV.ments.mentsL cs)=true then .act [] ⟨.ptr (.loc d) 0,[(.loc d,some (.box t cs))]⟩ True else .stop) else .stop
  |none=>.stop
 |none=>.stop
theorem stBox_ok {C:Ctx}{o:Oper}{L:LS}{t:TypeId}{x:Operand}(hdst:∀d,o.dst=some d→d<C.fn.ntmps)(ho:o.op = .box t x):SRok C o L (stBox L o.dst t x):=by
 unfold stBox;cases hd:o.dst with
 |none=>trivial
 |some d=>
  dsimp only;split
  ·rename_i cs hcs;split
   ·rename_i hn;split
    ·rename_i hni;intro _;obtain ⟨n1,n2⟩:=newOk_spec hn;refine ⟨sem1_of hdst fun L' hd' F a w hev hfp hnew hi=>?_,by simp,fun r hr=>?_⟩
     ·obtain ⟨m1,m2⟩:=hnew (.loc d) (by simp [news]);have hx:=hev x (by simp [ho,Op.operands]);obtain ⟨c1,c2,c3⟩:=cellsOf_rep hx hcs;obtain ⟨hd'',h1,h2⟩:=inv_new hi (by simp) m1 m2 t c1 c2 c3 ((notIn_iff _ _).1 hni);refine ⟨_,_,hd'',F,.inl ?_,h1,h2⟩;simp [execOp,ho,Instr.box,newVar,newRow]
     ·simp [news] at hr;subst hr;exact ⟨n1,n2,by simp [mayMake1,hd,ho,makes]⟩
    ·trivial
   ·trivial
  ·trivial
def stAlloc (T:TT)(L:LS)(dst:Option Nat)(t:Nat):SR:=match dst with
 |some d=>match lkT T t with
  |some i=>if newOk L (.loc d)=true then .act [] ⟨.ptr (.loc d) 0,[(.loc d,some (.box t (i.zero.map .pv)))]⟩ True else .stop
  |none=>.stop
 |none=>.stop
theorem mentsL_pv (l:List PV):AV.ments.mentsL (l.map .pv) = []:=by induction l<;>simp [AV.ments.mentsL,AV.ments, *]
theorem zero_rep {P:Program}{t:Nat}{i:TI}(ok:TOk1 P t i)(w:World)(F:Nat→Prop):∀(j:Nat) (p:PV) (v:Value),i.zero[j]?=some p→(i.zero.map PV.raw)[j]?=some v→RepP w F p v:=by
 intro j p v hj hv;rw [List.getElem?_map,hj] at hv;simp only [Option.map_some,Option.some.injEq] at hv;subst hv;rcases ok.zero p (List.mem_of_getElem? hj) with ⟨u,rfl,hu⟩|⟨sz,rfl⟩
 ·exact .val u hu
 ·exact .nilS sz
theorem stAlloc_ok {C:Ctx}{T:TT}(hT:TOk C.P T){o:Oper}{L:LS}{t:TypeId}(hdst:∀d,o.dst=some d→d<C.fn.ntmps)(ho:o.op = .alloc t):SRok C o L (stAlloc T L o.dst t):=by
 unfold stAlloc;cases hd:o.dst with
 |none=>trivial
 |some d=>
  dsimp only;split
  ·rename_i i hli;split
   ·rename_i hn;intro _;obtain ⟨n1,n2⟩:=newOk_spec hn;have ok:=lkT_ok hT hli;obtain ⟨inf,z,j1,j2,j3,j4,j5,j6⟩:=ok.info;refine ⟨sem1_of hdst fun L' hd' F a w hev hfp hnew hi=>?_,by simp,fun r hr=>?_⟩
    ·obtain ⟨m1,m2⟩:=hnew (.loc d) (by simp [news]);have hcs:z.cells=(i.zero.map PV.raw).toArray:=(by rw [←j5]);obtain ⟨hd'',h1,h2⟩:=inv_new (v:=z) (cs:=i.zero.map .pv) hi (by simp) m1 m2 t (by simp [hcs]) (fun j c u hj hu=>by
      rw [List.getElem?_map] at hj;cases hz:i.zero[j]? with
      |none=>rw [hz] at hj;cases hj
      |some p=>
       rw [hz] at hj;cases hj;rw [hcs] at hu;exact .pv _ _ (zero_rep ok w F j p u hz (by simpa using hu))) (fun u hu=>by
      rw [j5] at hu;obtain ⟨p,hp,rfl⟩:=List.mem_map.1 hu;rcases ok.zero p hp with ⟨u',rfl,hu'⟩|⟨sz,rfl⟩
      ·exact hu'
      ·rfl) (by rw [mentsL_pv];simp)
     refine ⟨_,_,hd'',F,.inl ?_,h1,h2⟩;simp [execOp,ho,Instr.alloc,zeroValue,typeInfo,j1,j4,newVar,newRow]
    ·simp [news] at hr;subst hr;exact ⟨n1,n2,by simp [mayMake1,hd,ho,makes]⟩
   ·trivial
  ·trivial
def takeAt (i:TI)(cs:List AV)(off:Nat):Option AV:=
 if i.agg=true then (if ((cs.drop off).take i.size).length=i.size then some (.agg ((cs.drop off).take i.size)) else none) else cs[off]?
def stLoad (T:TT)(L:LS)(t:Nat)(x:Operand):SR:=match lkT T t with
 |some i=>match L.ev x with
  |.ptr r off=>match L.blk r with
   |some (.box ty cs)=>match takeAt i cs off with
    |some v=>.act [(r,.box ty cs)] ⟨v,[]⟩ True
    |none=>.stop
   |_=>.stop
  |.rop cs=>match takeAt i (cs.map .pv) 0 with
   |some v=>.act [] ⟨v,[]⟩ True
   |none=>.stop
  |.ept r sz k f=>match L.blk r with
   |some (.row e sz' es)=>if Nat.beq sz sz'=true then match es[k]? with
    |some el=>match takeAt i (el.map .pv) f with
     |some v=>.act [(r,.row e sz' es)] ⟨v,[]⟩ True
     |none=>.stop
    |none=>.stop
    else .stop
   |_=>.stop
  |_=>.stop
 |none=>.stop
theorem run_loadAt {P:Program}{T:TT}(hT:TOk P T){t:Nat}{i:TI}(hl:lkT T t=some i){w:World}{F:Nat→Prop}{hd:Nm→Hd}{ad:Addr}{cs:List AV}{off:Nat}{x:AV}(u:Nat→Value)
 (hc:∀(j:Nat) (c:AV),cs[off+j]?=some c→w.cell? (ad.add j)=some (u j)∧Rep w F hd c (u j)∧(u j).oneCell'=true) (h:takeAt i cs off=some x) :
 ∃v,(loadVar t ad).run P w = .ok v w∧Rep w F hd x v:=by
 have ok:=lkT_ok hT hl;obtain ⟨inf,z,j1,j2,_⟩:=ok.info;unfold takeAt at h;cases hag:i.agg with
 |true=>
  rw [hag] at h;simp only [if_true] at h;split at h
  ·rename_i hsz;cases h;have hidx:∀j,j<i.size→∃c,cs[off+j]?=some c∧((cs.drop off).take i.size)[j]?=some c:=by
    intro j hj;have:j<((cs.drop off).take i.size).length:=(by omega);refine ⟨((cs.drop off).take i.size)[j],?_,List.getElem?_eq_getElem this⟩;have h2:=List.getElem?_eq_getElem this;rw [List.getElem?_take] at h2;simp only [hj,if_true] at h2;rw [List.getElem?_drop] at h2;exact h2
   have hload:=run_loadCells (P:=P) w ad i.size u (fun j hj=>by
    obtain ⟨c,h1,_⟩:=hidx j hj;exact (hc j c h1).1)
   refine ⟨.agg ((List.range i.size).map u).toArray,by simp [loadVar,ok.agg w,hag,sizeOf,typeInfo,j1,j2,hload],.agg _ _ (by simp [hsz]) (fun j c v hj hv=>?_) (fun v hv=>?_)⟩
   ·have hjl:j<i.size:=(by have:=(List.getElem?_eq_some_iff.1 hj).1;omega);obtain ⟨c',h1,h2⟩:=hidx j hjl;rw [h2] at hj;cases hj;simp [hjl] at hv;subst hv;exact (hc j c h1).2.1
   ·obtain ⟨j,hj,rfl⟩:=List.mem_map.1 hv;obtain ⟨c,h1,_⟩:=hidx j (List.mem_range.1 hj);exact (hc j c h1).2.2
  ·cases h
 |false=>
  rw [hag] at h;simp only [Bool.false_eq_true,if_false] at h;obtain ⟨h1,h2,h3⟩:=hc 0 x (by simpa using h);have hadd:ad.add 0=ad:=by simp [Addr.add]
  rw [hadd] at h1;exact ⟨u 0,by simp [loadVar,ok.agg w,hag,h1],h2⟩
theorem stLoad_ok {C:Ctx}{T:TT}(hT:TOk C.P T){o:Oper}{L:LS}{t:TypeId}{x:Operand}(hdst:∀d,o.dst=some d→d<C.fn.ntmps)(ho:o.op = .load t x):SRok C o L (stLoad T L t x):=by
 unfold stLoad;split
 ·rename_i i hli;split
  ·rename_i r off hx;split
   ·rename_i ty cs hb;split
    ·rename_i v hv;refine .read1 hb fun _=>sem1_read hdst fun L' hd F a w hev hfp hi=>?_;have h1:=hev x (by simp [ho,Op.operands]);rw [hx] at h1;have h2:=hi.blocks r;rw [hfp (r,.box ty cs) (by simp)] at h2;obtain ⟨k,arr,q1,q2,q3,q4,q5⟩:=h2;have hp:a.eval x = .pointer (some ⟨k,off,none⟩):=by cases h1 with|ptr _ _ _ _ hp=>exact hp k q1
     obtain ⟨v',r1,r2⟩:=run_loadAt (P:=C.P) hT hli (w:=w) (F:=F) (hd:=hd) (ad:=⟨k,off,none⟩) (cs:=cs) (off:=off) (x:=v) (fun j=>arr.toList.getD (off+j) undef) (fun j c hj=>by
      have hlt:off+j<arr.size:=(by rw [q3];exact (List.getElem?_eq_some_iff.1 hj).1);have hg:arr.toList.getD (off+j) undef=arr[off+j]:=(by simp [List.getD_eq_getElem?_getD,hlt]);rw [hg,add_at,cell_at q2];exact ⟨by simp [hlt],q4 _ c _ hj (by simp [hlt]),q5 _ (by simp)⟩) hv
     exact ⟨v',by simp [execOp,ho,hp,Instr.loadAt,Instr.sureAddr,r1],r2⟩
    ·trivial
   ·trivial
  ·rename_i cs hx;split
   ·rename_i v hv;refine .read fun _=>sem1_read hdst fun L' hd F a w hev hfp hi=>?_;have h1:=hev x (by simp [ho,Op.operands]);rw [hx] at h1;generalize hz:a.eval x=z at h1;cases h1 with
    |rop _ ad u hs hF hc hr=>
     obtain ⟨v',r1,r2⟩:=run_loadAt (P:=C.P) hT hli (w:=w) (F:=F) (hd:=hd) (ad:=ad) (cs:=cs.map .pv) (off:=0) (x:=v) u (fun j c hj=>by
      rw [Nat.zero_add,List.getElem?_map] at hj;cases hcj:cs[j]? with
      |none=>rw [hcj] at hj;cases hj
      |some p=>
       rw [hcj] at hj;cases hj;exact ⟨hc j p hcj,.pv _ _ (hr j p hcj),(hr j p hcj).one⟩) hv
     exact ⟨v',by simp [execOp,ho,hz,Instr.loadAt,Instr.sureAddr,r1],r2⟩
   ·trivial
  ·rename_i r sz k f hx;split
   ·rename_i e sz' es hb;split
    ·rename_i hsz;rw [Nat.beq_eq] at hsz;subst hsz;split
     ·rename_i el hel;split
      ·rename_i v hv;refine .read1 hb fun _=>sem1_read hdst fun L' hd F a w hev hfp hi=>?_;have h1:=hev x (by simp [ho,Op.operands]);rw [hx] at h1;have h2:=hi.blocks r;rw [hfp (r,.row e sz es) (by simp)] at h2;obtain ⟨u,cells,q1,q2,q3,q4,q5⟩:=h2;have hk:k<es.length:=(List.getElem?_eq_some_iff.1 hel).1;have hown:=q2;rcases q2.2 with ⟨_,hn⟩|⟨g,cap,cur,rfl,_,hg,_,_,hcs,htk⟩
       ·omega
       ·have hp:a.eval x = .pointer (some ⟨g,k*sz+f,none⟩):=by cases h1 with|ept _ _ _ _ _ _ hp=>exact hp g _ _ q1
        have hell:=q3 k el hel;obtain ⟨v',r1,r2⟩:=run_loadAt (P:=C.P) hT hli (w:=w) (F:=F) (hd:=hd) (ad:=⟨g,k*sz+f,none⟩) (cs:=el.map .pv) (off:=f) (x:=v) (fun j=>cells.getD (k*sz+(f+j)) undef) (fun j c hj=>by
         rw [List.getElem?_map] at hj;cases hcj:el[f+j]? with
         |none=>rw [hcj] at hj;cases hj
         |some p=>
          rw [hcj] at hj;cases hj;have hjl:f+j<sz:=(by rw [←hell];exact (List.getElem?_eq_some_iff.1 hcj).1);have hlt:k*sz+(f+j)<cells.length:=by
           rw [q2.1]
           calc k*sz+(f+j)<k*sz+sz:=by omega
            _=(k+1)*sz:=by rw [Nat.add_mul,Nat.one_mul]
            _≤es.length*sz:=Nat.mul_le_mul_right _ hk
          have hg':cells[k*sz+(f+j)]?=some (cells.getD (k*sz+(f+j)) undef):=by
           rw [List.getD_eq_getElem?_getD,List.getElem?_eq_getElem hlt];rfl
          have hcell:=World.ownsRow.cells hown (g:=g) rfl _ _ hg';rw [add_plain] at hcell;rw [add_at,show k*sz+f+j=k*sz+(f+j) by omega];exact ⟨hcell,.pv _ _ (q4 k (f+j) el p _ hel hcj hg'),q5 _ (List.mem_of_getElem? hg')⟩) hv
        exact ⟨v',by simp [execOp,ho,hp,Instr.loadAt,Instr.sureAddr,r1],r2⟩
      ·trivial
     ·trivial
    ·trivial
   ·trivial
  ·trivial
 ·trivial
end Go.Abs
namespace Go.Abs
open Go.RowKit
def putAt (cs:List AV)(off:Nat)(l:List AV):List AV:=cs.take off++l++cs.drop (off+l.length)
theorem inv_store {C:Ctx}{L:LS}{hd:Nm→Hd}{F:Nat→Prop}{a:Act}{w:World}(hi:Inv C L hd F a w){r:Nm}{ty:Nat}{cs:List AV}(hb:L.blk r=some (.box ty cs)){v:Value}{l:List AV}{off:Nat}
 (h1:v.cells.size=l.length) (h2:∀(j:Nat) (c:AV) (u:Value),l[j]?=some c→v.cells[j]?=some u→Rep w F hd c u) (h3:∀u∈v.cells.toList,u.oneCell'=true) (hfit:off+l.length≤cs.length) {k:Nat} (hk:hd r = .box k) :
 ∃w',(storeCells ⟨k,off,none⟩ v.cells.toList).run C.P w = .ok () w'∧Inv C (L.upd [(r,some (.box ty (putAt cs off l)))]) hd F a w':=by
 have hblk:=hi.blocks r;rw [hb] at hblk;obtain ⟨k',arr,q1,q2,q3,q4,q5⟩:=hblk;obtain rfl:k=k':=by rw [hk] at q1;injection q1
 have hst:=run_storeCells_at C.P k off ty v.cells.toList 0 arr w q2 (by simp [h1,q3];omega) h3;refine ⟨_,hst,?_⟩;have hother:∀j,j≠k→(w.setRow k (arr.toList.take (off+0)++v.cells.toList++arr.toList.drop (off+0+v.cells.toList.length)).toArray).heap[j]?=w.heap[j]?:=fun j hj=>setRow_other w k j _ hj;have hnF:¬F k:=(hi.mine r k (by rw [hk];exact rfl)).1;refine inv_upd hi _ hd (fun j=>j=k) rfl rfl rfl (by simp) (fun j _ hj=>hother j hj) (fun j hj=>⟨r,by rw [hk];exact hj.symm⟩) (fun s hs=>⟨rfl,fun j hj hjk=>?_⟩) (fun s b hs=>?_) (fun s _=>.inl rfl) hi.sep (fun r' j hj=>⟨.inl ⟨r',hj⟩,?_⟩)
 ·have hne:s≠r:=fun e=>hs (by simp [e]);exact hi.sep s r j hne hj (by rw [hk];exact hjk.symm)
 ·by_cases hsr:s=r
  ·subst hsr;simp only [upsGet,if_true,Option.some.injEq] at hs;subst hs;refine ⟨k,_,hk,setRow_heap w k arr _ ty _ q2,?_,fun j c u hj hu=>?_,fun u hu=>?_⟩
   ·simp only [List.size_toArray,List.length_append,List.length_take,List.length_drop,Array.length_toList,putAt];omega
   ·have hmono:∀(c:AV) (u:Value),Rep w F hd c u→Rep (w.setRow k (arr.toList.take (off+0)++v.cells.toList++arr.toList.drop (off+0+v.cells.toList.length)).toArray) F hd c u:=fun c u hc=>
     hc.mono (fun j hj=>hother j (fun e=>hnF (e ▸ hj))) (fun _ h=>h) (fun _ _=>.inl rfl)
    apply hmono;rw [List.getElem?_toArray] at hu;unfold putAt at hj;have hlen1:(cs.take off).length=off:=(by simp;omega);have hlen2:(arr.toList.take (off+0)).length=off:=(by simp;omega);rw [List.append_assoc,List.getElem?_append] at hj hu;rw [hlen1] at hj;rw [hlen2] at hu;by_cases hjo:j<off
    ·rw [if_pos hjo] at hj hu;rw [List.getElem?_take,if_pos hjo] at hj;rw [List.getElem?_take,if_pos (by omega)] at hu;exact q4 j c u hj (by simpa using hu)
    ·rw [if_neg hjo] at hj hu;rw [List.getElem?_append] at hj hu;have hvl:v.cells.toList.length=l.length:=(by simpa using h1);rw [hvl] at hu;by_cases hjl:j-off<l.length
     ·rw [if_pos hjl] at hj hu;exact h2 _ c u hj (by simpa using hu)
     ·rw [if_neg hjl] at hj hu;rw [List.getElem?_drop] at hj hu;refine q4 _ c u hj ?_;simpa using hu
   ·have hu':u∈arr.toList.take (off+0)++v.cells.toList++arr.toList.drop (off+0+v.cells.toList.length):=hu;rcases List.mem_append.1 hu' with h|h
    ·rcases List.mem_append.1 h with h|h
     ·exact q5 u (List.mem_of_mem_take h)
     ·exact h3 u h
    ·exact q5 u (List.mem_of_mem_drop h)
  ·have:r≠s:=fun e=>hsr e.symm;simp [upsGet,this] at hs
 ·have:=(hi.mine r' j hj).2.1;simpa using this
def stStore (T:TT)(L:LS)(t:Nat)(x y:Operand):SR:=match lkT T t with
 |some i=>match L.ev x with
  |.ptr r off=>match L.blk r with
   |some (.box ty cs)=>match (L.ev y).cellsOf with
    |some l=>if l.length=i.size then (if off+l.length≤cs.length then .act [(r,.box ty cs)] ⟨.any,[(r,some (.box ty (putAt cs off l)))]⟩ True else .stop) else .stop
    |none=>.stop
   |_=>.stop
  |_=>.stop
 |none=>.stop
theorem stStore_ok {C:Ctx}{T:TT}(hT:TOk C.P T){o:Oper}{L:LS}{t:TypeId}{x y:Operand}(hdst:∀d,o.dst=some d→d<C.fn.ntmps)(ho:o.op = .store t x y):SRok C o L (stStore T L t x y):=by
 unfold stStore;split
 ·rename_i i hli;split
  ·rename_i r off hx;split
   ·rename_i ty cs hb;split
    ·rename_i l hl;split
     ·rename_i hsz;split
      ·rename_i hfit;intro _;refine ⟨sem1_of hdst fun L' hd F a w hev hfp hnew hi=>?_,by simpa using hb,fun q hq=>by simp [news,Nm.eqb_iff] at hq⟩;have h1:=hev x (by simp [ho,Op.operands]);rw [hx] at h1;have hb':=hfp (r,.box ty cs) (by simp);have h2:=hi.blocks r;rw [hb'] at h2;obtain ⟨k,arr,q1,q2,q3,q4,q5⟩:=h2;have hp:a.eval x = .pointer (some ⟨k,off,none⟩):=by cases h1 with|ptr _ _ _ _ hp=>exact hp k q1
       obtain ⟨c1,c2,c3⟩:=cellsOf_rep (hev y (by simp [ho,Op.operands])) hl;obtain ⟨w',r1,r2⟩:=inv_store (C:=C) hi hb' c1 c2 c3 hfit q1;obtain ⟨inf,z,j1,j2,_⟩:=(lkT_ok hT hli).info;refine ⟨_,w',hd,F,.inr ⟨?_,rfl⟩,r2,.any _⟩;have hs:(a.eval y).cells.size=inf.size:=(by rw [c1,hsz,j2]);simp [execOp,ho,hp,Instr.storeAt,Instr.sureAddr,storeVar,sizeOf,typeInfo,j1,hs,r1]
      ·trivial
     ·trivial
    ·trivial
   ·trivial
  ·trivial
 ·trivial
def stFieldAddr (T:TT)(L:LS)(t:Nat)(x:Operand)(f:Nat):SR:=match fieldT T t f with
 |some (off,ty)=>match lkT T ty with
  |some _=>match L.ev x with
   |.ptr r o=>match L.blk r with
    |some (.box ty cs)=>.act [(r,.box ty cs)] ⟨.ptr r (o+off),[]⟩ True
    |_=>.stop
   |.rop cs=>.act [] ⟨.rop (cs.drop off),[]⟩ True
   |_=>.stop
  |none=>.stop
 |none=>.stop
theorem run_fieldAt {P:Program}{T:TT}(hT:TOk P T){t f off ty:Nat}{i:TI}(h:fieldT T t f=some (off,ty))(hl:lkT T ty=some i)(ad:Addr)(w:World):(Instr.fieldAt t (.pointer (some ad)) f).run P w = .ok (.pointer (some (ad.add off))) w:=by
 obtain ⟨d,fd,h1,h2,h3,h4⟩:=fieldT_ok hT h;have ok:=lkT_ok hT hl;obtain ⟨inf,z,j1,j2,_⟩:=ok.info;subst h3 h4;have hs:¬inf.size=0:=by have:=ok.one;omega
 simp [Instr.fieldAt,run_underlying h1,h2,Instr.sureAddr,fieldPlace,sizeOf,typeInfo,j1,hs]
theorem stFieldAddr_ok {C:Ctx}{T:TT}(hT:TOk C.P T){o:Oper}{L:LS}{t:TypeId}{x:Operand}{f:Nat}(hdst:∀d,o.dst=some d→d<C.fn.ntmps)(ho:o.op = .fieldAddr t x f):SRok C o L (stFieldAddr T L t x f):=by
 unfold stFieldAddr;split
 ·rename_i off ty hf;split
  ·rename_i i hl;split
   ·rename_i r q hx;split
    ·rename_i ty' cs hb;refine .read1 hb fun _=>sem1_read hdst fun L' hd F a w hev hfp hi=>?_;have h1:=hev x (by simp [ho,Op.operands]);rw [hx] at h1;have h2:=hi.blocks r;rw [hfp (r,.box ty' cs) (by simp)] at h2;obtain ⟨k,arr,q1,_⟩:=h2;have hp:a.eval x = .pointer (some ⟨k,q,none⟩):=by cases h1 with|ptr _ _ _ _ hp=>exact hp k q1
     refine ⟨.pointer (some ⟨k,q+off,none⟩),?_,.ptr r _ _ rfl fun k' hk=>?_⟩
     ·simp [execOp,ho,hp,run_fieldAt hT hf hl,add_at]
     ·rw [q1] at hk;injection hk with hk;rw [hk]
    ·trivial
   ·rename_i cs hx;refine .read fun _=>sem1_read hdst fun L' hd F a w hev hfp hi=>?_;have h1:=hev x (by simp [ho,Op.operands]);rw [hx] at h1;generalize hz:a.eval x=z at h1;cases h1 with
    |rop _ ad u hs hF hc hr=>
     obtain ⟨g,q,sp⟩:=ad;obtain rfl:sp=none:=hs;refine ⟨.pointer (some ⟨g,q+off,none⟩),by simp [execOp,ho,hz,run_fieldAt hT hf hl,add_at],.rop _ _ (fun j=>u (off+j)) rfl hF (fun j c hj=>?_) (fun j c hj=>?_)⟩
     ·rw [List.getElem?_drop] at hj;have:=hc _ c hj;rw [add_at] at this ⊢;rw [Nat.add_assoc];exact this
     ·rw [List.getElem?_drop] at hj;exact hr _ c hj
   ·trivial
  ·trivial
 ·trivial
def stField (T:TT)(L:LS)(t:Nat)(x:Operand)(f:Nat):SR:=match fieldT T t f with
 |some (off,ty)=>match lkT T ty with
  |some i=>match L.ev x with
   |.agg l=>match takeAt i l off with
    |some v=>.act [] ⟨v,[]⟩ True
    |none=>.stop
   |_=>.stop
  |none=>.stop
 |none=>.stop
theorem stField_ok {C:Ctx}{T:TT}(hT:TOk C.P T){o:Oper}{L:LS}{t:TypeId}{x:Operand}{f:Nat}(hdst:∀d,o.dst=some d→d<C.fn.ntmps)(ho:o.op = .field t x f):SRok C o L (stField T L t x f):=by
 unfold stField;split
 ·rename_i off ty hf;split
  ·rename_i i hl;split
   ·rename_i l hx;split
    ·rename_i v hv;refine .read fun _=>sem1_read hdst fun L' hd F a w hev hfp hi=>?_;have h1:=hev x (by simp [ho,Op.operands]);rw [hx] at h1;generalize hz:a.eval x=z at h1;cases h1 with
     |agg _ cs g1 g2 g3=>
      obtain ⟨d,fd,e1,e2,e3,e4⟩:=fieldT_ok hT hf;have ok:=lkT_ok hT hl;obtain ⟨inf,zz,j1,j2,_⟩:=ok.info;subst e3 e4;unfold takeAt at hv;cases hag:i.agg with
      |true=>
       rw [hag] at hv;simp only [if_true] at hv;split at hv
       ·rename_i hsz;cases hv;refine ⟨.agg ((cs.drop fd.offset).take i.size).toArray,?_,.agg _ _ ?_ (fun j c u hj hu=>?_) (fun u hu=>g3 u (List.mem_of_mem_drop (List.mem_of_mem_take hu)))⟩
        ·have hsz0:(sizeOf fd.type).run C.P w = .ok inf.size w:=(by simp [sizeOf,typeInfo,j1]);simp [execOp,ho,hz,Instr.field,run_underlying e1,e2,asAgg,part,ok.agg w,hag,hsz0,j2,List.extract_eq_take_drop]
        ·simp only [List.length_take,List.length_drop] at hsz ⊢;omega
        ·rw [List.getElem?_take] at hj hu;split at hj
         ·rename_i hlt;rw [if_pos hlt] at hu;rw [List.getElem?_drop] at hj hu;exact g2 _ c u hj hu
         ·cases hj
       ·cases hv
      |false=>
       rw [hag] at hv;simp only [Bool.false_eq_true,if_false] at hv;have hlt:fd.offset<cs.length:=(by rw [g1];exact (List.getElem?_eq_some_iff.1 hv).1);refine ⟨cs[fd.offset],?_,g2 _ v _ hv (List.getElem?_eq_getElem hlt)⟩;simp [execOp,ho,hz,Instr.field,run_underlying e1,e2,asAgg,part,ok.agg w,hag,hlt]
    ·trivial
   ·trivial
  ·trivial
 ·trivial
def stExtract (L:LS)(x:Operand)(j:Nat):SR:=match L.ev x with
 |.tup l=>match l[j]? with
  |some v=>.act [] ⟨v,[]⟩ True
  |none=>.stop
 |_=>.stop
theorem stExtract_ok {C:Ctx}{o:Oper}{L:LS}{x:Operand}{j:Nat}(hdst:∀d,o.dst=some d→d<C.fn.ntmps)(ho:o.op = .extract x j):SRok C o L (stExtract L x j):=by
 unfold stExtract;split
 ·rename_i l hx;split
  ·rename_i v hv;refine .read fun _=>sem1_read hdst fun L' hd F a w hev hfp hi=>?_;have h1:=hev x (by simp [ho,Op.operands]);rw [hx] at h1;generalize hz:a.eval x=z at h1;cases h1 with
   |tup _ cs g1 g2=>
    have hlt:j<cs.length:=(by rw [g1];exact (List.getElem?_eq_some_iff.1 hv).1);exact ⟨cs[j],by simp [execOp,ho,hz,Instr.extract,hlt],g2 _ v _ hv (List.getElem?_eq_getElem hlt)⟩
  ·trivial
 ·trivial
def stNilCheck (L:LS)(x:Operand):SR:=match L.ev x with
 |.ptr r o=>match L.blk r with
  |some (.box ty cs)=>.act [(r,.box ty cs)] ⟨.ptr r o,[]⟩ True
  |_=>.stop
 |.rop cs=>.act [] ⟨.rop cs,[]⟩ True
 |.fn (.func f) l l'=>.act [] ⟨.fn (.func f) l l',[]⟩ True
 |_=>.stop
theorem stNilCheck_ok {C:Ctx}{o:Oper}{L:LS}{x:Operand}(hdst:∀d,o.dst=some d→d<C.fn.ntmps)(ho:o.op = .nilCheck x):SRok C o L (stNilCheck L x):=by
 unfold stNilCheck;split
 ·rename_i r q hx;split
  ·rename_i ty' cs hb;refine .read1 hb fun _=>sem1_read hdst fun L' hd F a w hev hfp hi=>?_;have h1:=hev x (by simp [ho,Op.operands]);rw [hx] at h1;have h2:=hi.blocks r;rw [hfp (r,.box ty' cs) (by simp)] at h2;obtain ⟨k,arr,q1,_⟩:=h2;have hp:a.eval x = .pointer (some ⟨k,q,none⟩):=by cases h1 with|ptr _ _ _ _ hp=>exact hp k q1
   exact ⟨_,by simp [execOp,ho,hp],h1⟩
  ·trivial
 ·rename_i cs hx;refine .read fun _=>sem1_read hdst fun L' hd F a w hev hfp hi=>?_;have h1:=hev x (by simp [ho,Op.operands]);rw [hx] at h1;refine ⟨_,?_,h1⟩;generalize hz:a.eval x=z at h1;cases h1 with
  |rop _ ad u hs hF hc hr=>simp [execOp,ho,hz]
 ·rename_i f l l' hx;refine .read fun _=>sem1_read hdst fun L' hd F a w hev hfp hi=>?_;have h1:=hev x (by simp [ho,Op.operands]);rw [hx] at h1;refine ⟨_,?_,h1⟩;generalize hz:a.eval x=z at h1;cases h1 with
  |fn=>simp [execOp,ho,hz]
 ·trivial
def evL (L:LS):List Operand→List AV
 |[]=>[]
 |x::l=>L.ev x::evL L l
theorem evL_get (L:LS):∀(l:List Operand) (j:Nat),(evL L l)[j]?=(l[j]?).map L.ev
 |[],j=>by simp [evL]
 |x::l,0=>by simp [evL]
 |x::l,j+1=>by simp [evL,evL_get L l j]
theorem evL_len (L:LS):∀(l:List Operand),(evL L l).length=l.length
 |[]=>rfl
 |x::l=>by simp [evL,evL_len L l]
def stMakeFunc (L:LS)(f:Fn)(l l':Array Operand):SR:=.act [] ⟨.fn f (evL L l.toList) (evL L l'.toList),[]⟩ True
theorem stMakeFunc_ok {C:Ctx}{o:Oper}{L:LS}{f:Fn}{l l':Array Operand}(hdst:∀d,o.dst=some d→d<C.fn.ntmps)(ho:o.op = .makeFunc f l l'):SRok C o L (stMakeFunc L f l l'):=by
 refine .read fun _=>sem1_read hdst fun L' hd F a w hev hfp hi=>⟨.func f (l.map a.eval) (l'.map a.eval),by simp [execOp,ho,Instr.makeFunc],?_⟩;have key:∀(q:Array Operand),(∀x∈q.toList,x∈o.op.operands.toList)→∀(j:Nat) (c:AV) (v:Value),(evL L q.toList)[j]?=some c→((q.toList.map a.eval))[j]?=some v→Rep w F hd c v:=by
  intro q hq j c v hj hv;rw [evL_get] at hj;rw [List.getElem?_map] at hv;cases hqj:q.toList[j]? with
  |none=>rw [hqj] at hj;cases hj
  |some x=>
   rw [hqj] at hj hv;cases hj;cases hv;exact hev x (hq x (List.mem_of_getElem? hqj))
 have:=Rep.fn (w:=w) (F:=F) (hd:=hd) f (evL L l.toList) (evL L l'.toList) (l.toList.map a.eval) (l'.toList.map a.eval) (by simp [evL_len]) (by simp [evL_len]) (key l (fun x hx=>by simp [ho,Op.operands];left;simpa using hx)) (key l' (fun x hx=>by simp [ho,Op.operands];right;simpa using hx));have e:∀q:Array Operand,(q.toList.map a.eval).toArray=q.map a.eval:=fun q=>by rw [←Array.toList_map]
 rw [e,e] at this;exact this
@[irreducible] def byteAt (s:ByteArray)(i:Int):Int:=((s.data.toList.getD i.toNat 0).toNat:Int)
theorem byteAt_eq (s:ByteArray)(i:Int):byteAt s i=((s.data.toList.getD i.toNat 0).toNat:Int):=by unfold byteAt;rfl
def stLen (T:TT)(L:LS)(t:Nat)(x:Operand):SR:=match L.ev x with
 |.pv (.ro sz es)=>match sliceE T t with
  |some _=>.act [] ⟨.pv (.val (.int .i64 (es.length:Int))),[]⟩ True
  |none=>.stop
 |.own r=>match L.blk r with
  |some (.row e sz es)=>match sliceE T t with
   |some _=>.act [(r,.row e sz es)] ⟨.pv (.val (.int .i64 (es.length:Int))),[]⟩ True
   |none=>.stop
  |_=>.stop
 |.pv (.nilS _)=>match sliceE T t with
  |some _=>.act [] ⟨.pv (.val (.int .i64 0)),[]⟩ True
  |none=>.stop
 |.pv (.val (.string s))=>if isStrT T t=true then .act [] ⟨.pv (.val (.int .i64 (s.size:Int))),[]⟩ True else .stop
 |_=>.stop
theorem own_slice {w:World}{base:Nat}{e:TypeId}{size:Nat}{v:Value}{n:Nat}{xs:List Value}(h:w.ownsRow base e size v n xs):∃A c,v = .slice A n c:=by
 rcases h.2 with ⟨rfl,rfl⟩|⟨g,cap,cur,rfl,_⟩
 ·exact ⟨none,0,rfl⟩
 ·exact ⟨_,cap,rfl⟩
theorem stLen_ok {C:Ctx}{T:TT}(hT:TOk C.P T){o:Oper}{L:LS}{c:Call}{t:TypeId}{x:Operand}(hdst:∀d,o.dst=some d→d<C.fn.ntmps)(ho:o.op = .call c)(hc:c.callee = .builtin .len)(hx':c.args = #[x])(ht:c.argTypes = #[t]):SRok C o L (stLen T L t x):=by
 have hmem:x∈o.op.operands.toList:=by simp [ho,Op.operands,Call.operands,hx',hc]
 unfold stLen;split
 ·rename_i sz es hx;split
  ·rename_i e he;refine .read fun _=>sem1_read hdst fun L' hd F a w hev hfp hi=>⟨_,?_,rep_val rfl⟩;have h1:=hev x hmem;rw [hx] at h1;generalize hz:a.eval x=z at h1;cases h1 with
   |pv _ _ hp=>cases hp with|ro=>simp [execOp,ho,resolve,hc,hx',ht,invoke,builtin,Builtin.len_,run_underlying (sliceE_ok hT he),hz,goInt]
  ·trivial
 ·rename_i r hx;split
  ·rename_i e sz es hb;split
   ·rename_i e' he;refine .read1 hb fun _=>sem1_read hdst fun L' hd F a w hev hfp hi=>⟨_,?_,rep_val rfl⟩;have h1:=hev x hmem;rw [hx] at h1;have h2:=hi.blocks r;rw [hfp (r,.row e sz es) (by simp)] at h2;obtain ⟨v,cells,q1,q2,_⟩:=h2;have hp:a.eval x=v:=by cases h1 with|own _ _ _ hp=>exact hp v q1
    obtain ⟨A,cp,rfl⟩:=own_slice q2;simp [execOp,ho,resolve,hc,hx',ht,invoke,builtin,Builtin.len_,run_underlying (sliceE_ok hT he),hp,goInt]
   ·trivial
  ·trivial
 ·rename_i sz hx;split
  ·rename_i e he;refine .read fun _=>sem1_read hdst fun L' hd F a w hev hfp hi=>⟨_,?_,rep_val rfl⟩;have h1:=hev x hmem;rw [hx] at h1;generalize hz:a.eval x=z at h1;cases h1 with
   |pv _ _ hp=>cases hp with|nilS=>simp [execOp,ho,resolve,hc,hx',ht,invoke,builtin,Builtin.len_,run_underlying (sliceE_ok hT he),hz,goInt]
  ·trivial
 ·rename_i s hx;split
  ·rename_i hs;refine .read fun _=>sem1_read hdst fun L' hd F a w hev hfp hi=>⟨_,?_,rep_val rfl⟩;have h1:=hev x hmem;rw [hx] at h1;simp [execOp,ho,resolve,hc,hx',ht,invoke,builtin,Builtin.len_,run_underlying (isStrT_ok hT hs),bool_of h1,goInt]
  ·trivial
 ·trivial
def stIndex (T:TT)(L:LS)(t:Nat)(x y:Operand):SR:=match L.ev x,L.ev y with
 |.pv (.val (.string s)),.pv (.val (.int _ i))=>if isStrT T t=true then .act [] ⟨.pv (.val (.int .u8 (byteAt s i))),[]⟩ (0≤i∧i<s.size) else .stop
 |_,_=>.stop
theorem stIndex_ok {C:Ctx}{T:TT}(hT:TOk C.P T){o:Oper}{L:LS}{t:TypeId}{x y:Operand}(hdst:∀d,o.dst=some d→d<C.fn.ntmps)(ho:o.op = .index t x y):SRok C o L (stIndex T L t x y):=by
 unfold stIndex;split
 ·rename_i s k i hx hy;split
  ·rename_i hs;refine .read fun hp=>sem1_read hdst fun L' hd F a w hev hfp hi=>⟨_,?_,rep_val rfl⟩;have h1:=hev x (by simp [ho,Op.operands]);have h2:=hev y (by simp [ho,Op.operands]);rw [hx] at h1;rw [hy] at h2;have hlt:i.toNat<s.size:=(by omega);have hg:s[i.toNat]?=some (s.data.toList.getD i.toNat 0):=by
    have:s.data.toList.getD i.toNat 0=s[i.toNat]:=by
     have h3:i.toNat<s.data.toList.length:=(by simpa using hlt);rw [List.getD_eq_getElem?_getD,List.getElem?_eq_getElem h3];rfl
    rw [this];exact getElem?_pos s i.toNat hlt
   simp [execOp,ho,bool_of h1,bool_of h2,Instr.index,asIntOf,run_underlying (isStrT_ok hT hs),hp.1,hg,byteAt_eq]
  ·trivial
 ·trivial
end Go.Abs
namespace Go.Abs
open Go.RowKit
def stIndexAddr (T:TT)(L:LS)(t:Nat)(x y:Operand):SR:=match L.ev x,L.ev y with
 |.pv (.ro sz es),.pv (.val (.int _ i))=>match sliceE T t with
  |some e=>match lkT T e with
   |some inf=>if inf.size=sz then .act [] ⟨.rop (es.getD i.toNat []),[]⟩ (0≤i∧i<es.length) else .stop
   |none=>.stop
  |none=>.stop
 |.own r,.pv (.val (.int _ i))=>match sliceE T t with
  |some e=>match lkT T e with
   |some inf=>match L.blk r with
    |some (.row e' sz es)=>if inf.size=sz then .act [(r,.row e' sz es)] ⟨.ept r sz i.toNat 0,[]⟩ (0≤i∧i<es.length) else .stop
    |_=>.stop
   |none=>.stop
  |none=>.stop
 |_,_=>.stop
theorem run_indexAt' {P:Program}{T:TT}(hT:TOk P T){t e:Nat}{inf:TI}(h:sliceE T t=some e)(hl:lkT T e=some inf)(ad:Addr)(n c:Nat)(k:IntKind)(i:Int)(h0:0≤i)(h1:i<n)(w:World) :
 (Instr.indexAt t (.slice (some ad) n c) (.int k i)).run P w = .ok (.pointer (some (ad.add (i.toNat*inf.size)))) w:=by
 obtain ⟨inf',z,j1,j2,_⟩:=(lkT_ok hT hl).info;simp [Instr.indexAt,run_underlying (sliceE_ok hT h),asIntOf,h0,h1,sizeOf,typeInfo,j1,j2]
theorem stIndexAddr_ok {C:Ctx}{T:TT}(hT:TOk C.P T){o:Oper}{L:LS}{t:TypeId}{x y:Operand}(hdst:∀d,o.dst=some d→d<C.fn.ntmps)(ho:o.op = .indexAddr t x y):SRok C o L (stIndexAddr T L t x y):=by
 unfold stIndexAddr;split
 ·rename_i sz es k i hx hy;split
  ·rename_i e he;split
   ·rename_i inf hl;split
    ·rename_i hsz;refine .read fun hp=>sem1_read hdst fun L' hd F a w hev hfp hi=>?_;have h1:=hev x (by simp [ho,Op.operands]);have h2:=hev y (by simp [ho,Op.operands]);rw [hx] at h1;rw [hy] at h2;generalize hz:a.eval x=z at h1;cases h1 with
     |pv _ _ hp'=>
      cases hp' with
      |ro _ _ A cap u hA hc hm hlen ha hr=>
       have hne:es≠[]:=fun e=>by subst e;simp at hp;omega
       obtain ⟨ad,rfl,hs,hF,hcell⟩:=ha hne;obtain ⟨g,q,sp⟩:=ad;obtain rfl:sp=none:=hs;have hlt:i.toNat<es.length:=(by omega);have hg:es[i.toNat]?=some (es.getD i.toNat []):=(by rw [List.getD_eq_getElem?_getD,List.getElem?_eq_getElem hlt];rfl);refine ⟨.pointer (some ⟨g,q+i.toNat*sz,none⟩),?_,.rop _ _ (fun j=>u i.toNat j) rfl hF (fun j c hj=>?_) (fun j c hj=>hr _ j _ c hg hj)⟩
       ·have:=run_indexAt' (P:=C.P) hT he hl ⟨g,q,none⟩ es.length cap k i hp.1 hp.2 w;rw [add_at,hsz] at this;simp [execOp,ho,hz,bool_of h2,this]
       ·have:=hcell _ j _ c hg hj;rw [add_at] at this ⊢;rw [Nat.add_assoc];exact this
    ·trivial
   ·trivial
  ·trivial
 ·rename_i r k i hx hy;split
  ·rename_i e he;split
   ·rename_i inf hl;split
    ·rename_i e' sz es hb;split
     ·rename_i hsz;refine .read1 hb fun hp=>sem1_read hdst fun L' hd F a w hev hfp hi=>?_;have h1:=hev x (by simp [ho,Op.operands]);have h2:=hev y (by simp [ho,Op.operands]);rw [hx] at h1;rw [hy] at h2;have h3:=hi.blocks r;rw [hfp (r,.row e' sz es) (by simp)] at h3;obtain ⟨v,cells,q1,q2,q3,q4,q5⟩:=h3;have hv:a.eval x=v:=by cases h1 with|own _ _ _ hp=>exact hp v q1
      rcases q2.2 with ⟨rfl,hn⟩|⟨g,cap,cur,rfl,_⟩
      ·omega
      ·refine ⟨.pointer (some ⟨g,i.toNat*sz,none⟩),?_,.ept r sz _ 0 _ rfl fun g' n' c' hk=>?_⟩
       ·have:=run_indexAt' (P:=C.P) hT he hl ⟨g,0,none⟩ es.length cap k i hp.1 hp.2 w;rw [add_at,hsz,Nat.zero_add] at this;simp [execOp,ho,hv,bool_of h2,this]
       ·rw [q1] at hk;injection hk with hk
        injection hk with hk _ _
        injection hk with hk
        injection hk with hk _ _
        rw [hk];rfl
     ·trivial
    ·trivial
   ·trivial
  ·trivial
 ·trivial
def AV.flat:AV→Bool
 |.pv (.val _)=>true
 |.agg l=>flatL l
 |.tup l=>flatL l
 |_=>false
where flatL:List AV→Bool
 |[]=>true
 |x::l=>x.flat&&flatL l
def AV.ren (ρ:Nm→Nm):AV→AV
 |.pv p=>.pv p
 |.agg l=>.agg (renL ρ l)
 |.tup l=>.tup (renL ρ l)
 |.own r=>.own (ρ r)
 |.ptr r o=>.ptr (ρ r) o
 |.ept r sz i f=>.ept (ρ r) sz i f
 |.rop cs=>.rop cs
 |.fn f a b=>.fn f (renL ρ a) (renL ρ b)
 |.hmap r=>.hmap (ρ r)
 |.rom Q=>.rom Q
 |.opq Q=>.opq Q
 |.any=>.any
where renL (ρ:Nm→Nm):List AV→List AV
 |[]=>[]
 |x::l=>x.ren ρ::renL ρ l
def Blk.ren (ρ:Nm→Nm):Blk→Blk
 |.box ty cs=>.box ty (AV.ren.renL ρ cs)
 |.row e sz es=>.row e sz es
 |.raw Q=>.raw Q
 |.iter Q=>.iter Q
 |.gen Q=>.gen Q
 |.fam ty l=>.fam ty l
 |.genP Q s=>.genP Q (ρ s)
theorem renL_get (ρ:Nm→Nm):∀(l:List AV) (j:Nat),(AV.ren.renL ρ l)[j]?=(l[j]?).map (AV.ren ρ)
 |[],j=>by simp [AV.ren.renL]
 |x::l,0=>by simp [AV.ren.renL]
 |x::l,j+1=>by simp [AV.ren.renL,renL_get ρ l j]
theorem renL_len (ρ:Nm→Nm):∀(l:List AV),(AV.ren.renL ρ l).length=l.length
 |[]=>rfl
 |x::l=>by simp [AV.ren.renL,renL_len ρ l]
theorem Rep.ren {w:World}{F:Nat→Prop}{hd hd':Nm→Hd}{ρ:Nm→Nm}{x:AV}{v:Value}(h:Rep w F hd x v)(hh:∀r,r∈x.ments→hd' (ρ r)=hd r∨hd' (ρ r) = .dead):Rep w F hd' (x.ren ρ) v:=by
 have hL:∀(l:List AV) (cs:List Value),(∀(j:Nat) (c:AV) (v:Value),l[j]?=some c→cs[j]?=some v→Rep w F hd' (c.ren ρ) v)→∀(j:Nat) (c:AV) (v:Value),(AV.ren.renL ρ l)[j]?=some c→cs[j]?=some v→Rep w F hd' c v:=by
  intro l cs ih j c v hj hv;rw [renL_get] at hj;cases hlj:l[j]? with
  |none=>rw [hlj] at hj;cases hj
  |some y=>rw [hlj] at hj;cases hj;exact ih j y v hlj hv
 induction h with
 |pv p v h=>exact .pv p v h
 |agg l cs hl h h1 ih=>exact .agg _ cs (by rw [renL_len];exact hl) (hL l cs fun j c v hj hv=>ih j c v hj hv fun r hr=>hh r (by simp only [AV.ments];exact mem_mentsL hj hr)) h1
 |tup l cs hl h ih=>exact .tup _ cs (by rw [renL_len];exact hl) (hL l cs fun j c v hj hv=>ih j c v hj hv fun r hr=>hh r (by simp only [AV.ments];exact mem_mentsL hj hr))
 |own r v h1 h=>
  refine .own _ v h1 fun u hu=>?_;rcases hh r (by simp [AV.ments]) with e|e
  ·exact h u (e ▸ hu)
  ·rw [e] at hu;cases hu
 |ptr r off v h1 h=>
  refine .ptr _ off v h1 fun u hu=>?_;rcases hh r (by simp [AV.ments]) with e|e
  ·exact h u (e ▸ hu)
  ·rw [e] at hu;cases hu
 |ept r sz i f v h1 h=>
  refine .ept _ sz i f v h1 fun g n c hu=>?_;rcases hh r (by simp [AV.ments]) with e|e
  ·exact h g n c (e ▸ hu)
  ·rw [e] at hu;cases hu
 |rop cs ad u hs h1 hc hr=>exact .rop cs ad u hs h1 hc hr
 |fn f a b va vb ha hb h h' ih ih'=>
  exact .fn f _ _ va vb (by rw [renL_len];exact ha) (by rw [renL_len];exact hb) (hL a va fun j c v hj hv=>ih j c v hj hv fun r hr=>hh r (by simp only [AV.ments,List.mem_append];exact .inl (mem_mentsL hj hr)))
   (hL b vb fun j c v hj hv=>ih' j c v hj hv fun r hr=>hh r (by simp only [AV.ments,List.mem_append];exact .inr (mem_mentsL hj hr)))
 |hmap r v h1 h=>
  refine .hmap _ v h1 fun u hu=>?_;rcases hh r (by simp [AV.ments]) with e|e
  ·exact h u (e ▸ hu)
  ·rw [e] at hu;cases hu
 |rom Q k o h1 h2 h3=>exact .rom Q k o h1 h2 h3
 |opq Q v h1 h=>exact .opq Q v h1 h
 |any v=>exact .any v
theorem HoldB.ren {w:World}{F:Nat→Prop}{hd hd':Nm→Hd}{ρ:Nm→Nm}{r s:Nm}{b:Blk}(h:HoldB w F hd r (some b))(hs:hd' s=hd r)(hh:∀m,m∈b.ments→hd' (ρ m)=hd m∨hd' (ρ m) = .dead):HoldB w F hd' s (some (b.ren ρ)):=by
 cases b with
 |box ty cs=>
  obtain ⟨k,arr,h1,h2,h3,h4,h5⟩:=h;refine ⟨k,arr,hs.trans h1,h2,by rw [renL_len];exact h3,fun j c v hj hv=>?_,h5⟩;rw [renL_get] at hj;cases hlj:cs[j]? with
  |none=>rw [hlj] at hj;cases hj
  |some y=>rw [hlj] at hj;cases hj;exact (h4 j y v hlj hv).ren fun m hm=>hh m (mem_mentsL hlj hm)
 |row e sz es=>
  obtain ⟨v,cells,h1,h2⟩:=h;exact ⟨v,cells,hs.trans h1,h2⟩
 |raw Q=>
  obtain ⟨k,o,h1,h2⟩:=h;exact ⟨k,o,hs.trans h1,h2⟩
 |iter Q=>
  obtain ⟨k,o,b,ob,h1,h2⟩:=h;exact ⟨k,o,b,ob,hs.trans h1,h2⟩
 |gen Q=>
  obtain ⟨k,o,h1,h2⟩:=h;exact ⟨k,o,hs.trans h1,h2⟩
 |fam ty l=>exact ⟨hs.trans h.1,h.2⟩
 |genP Q t=>
  obtain ⟨k,o,z,h1,h2,h3,h4⟩:=h;refine ⟨k,o,z,hs.trans h1,h2,h3,fun j hj=>?_⟩;rcases hh t (by simp [Blk.ments]) with e|e
  ·exact h4 j (e ▸ hj)
  ·rw [e] at hj;cases hj
def inName (ns:List Nm)(s:Nm):Nm:=go ns 0
where go:List Nm→Nat→Nm
 |[],_=>.out 0
 |x::l,i=>if x.eqb s=true then .arg i else go l (i+1)
def backName (ns:List Nm):Nm→Nm
 |.arg i=>ns.getD i (.arg i)
 |r=>r
def nodupB:List Nm→Bool
 |[]=>true
 |x::l=>notIn x l&&nodupB l
theorem nodupB_spec {l:List Nm}(h:nodupB l=true):l.Nodup:=by
 induction l with
 |nil=>exact List.nodup_nil
 |cons x l ih=>
  simp only [nodupB,Bool.and_eq_true,notIn_iff] at h;exact List.nodup_cons.2 ⟨h.1,ih h.2⟩
def inHd (ns:List Nm)(hd:Nm→Hd):Nm→Hd
 |.arg i=>match ns[i]? with
  |some s=>hd s
  |none=>.dead
 |_=>.dead
theorem inName_go {ns:List Nm}{s:Nm}:∀ {l:List Nm} {i:Nat},(∀j,l[j]?=ns[i+j]?)→inName.go s l i = .out 0∨∃j,inName.go s l i = .arg j∧ns[j]?=some s
 |[],i,_=>.inl rfl
 |x::l,i,h=>by
  simp only [inName.go];split
  ·rename_i e;rw [Nm.eqb_iff] at e;subst e;exact .inr ⟨i,rfl,by have:=h 0;simpa using this.symm⟩
  ·exact inName_go fun j=>by have:=h (j+1);simpa [Nat.add_assoc,Nat.add_comm 1 j] using this
theorem inHd_in (ns:List Nm)(hd:Nm→Hd)(s:Nm):inHd ns hd (inName ns s)=hd s∨inHd ns hd (inName ns s) = .dead:=by
 rcases inName_go (ns:=ns) (s:=s) (l:=ns) (i:=0) (fun j=>by simp) with e|⟨j,e,hj⟩
 ·right;unfold inName;rw [e];rfl
 ·left;unfold inName;rw [e];simp [inHd,hj]
def onlyArgs (n:Nat):List Nm→Bool
 |[]=>true
 |.arg i::l=>Nat.blt i n&&onlyArgs n l
 |_::_=>false
theorem onlyArgs_spec {n:Nat}{l:List Nm}(h:onlyArgs n l=true):∀r∈l,∃i,r = .arg i∧i<n:=by
 induction l with
 |nil=>intro r hr;cases hr
 |cons x l ih=>
  cases x with
  |arg i=>
   simp only [onlyArgs,Bool.and_eq_true,Nat.blt_eq] at h;intro r hr;rcases List.mem_cons.1 hr with rfl|hr
   ·exact ⟨i,rfl,h.1⟩
   ·exact ih h.2 r hr
  |_=>simp [onlyArgs] at h
def blksMents:List (Option Blk)→List Nm
 |[]=>[]
 |some b::l=>b.ments++blksMents l
 |none::l=>blksMents l
theorem blksMents_mem {l:List (Option Blk)}{i:Nat}{b:Blk}(h:l[i]?=some (some b)):∀r∈b.ments,r∈blksMents l:=by
 induction l generalizing i with
 |nil=>simp at h
 |cons x l ih=>
  intro r hr;cases i with
  |zero=>simp at h;subst h;simp [blksMents,hr]
  |succ i=>
   simp at h;cases x with
   |none=>exact ih h r hr
   |some c=>simp only [blksMents,List.mem_append];exact .inr (ih h r hr)
theorem lkH_keyed (l:List (Option Blk))(n:Nat)(r:Nm):lkH (keyed n l) r=match r with
 |.arg i=>if n≤i then (l[i-n]?).getD none else none
 |_=>none:=by
 induction l generalizing n with
 |nil=>cases r<;>simp [keyed,lkH]
 |cons b l ih=>
  cases r with
  |arg i=>
   simp only [keyed,lkH,Nm.eqb,Nat.beq_eq,ih];by_cases h:n=i
   ·subst h;simp
   ·by_cases h2:n+1≤i
    ·have h3:n≤i:=(by omega);simp only [h,if_false,h2,if_true,h3,show i-n=(i-(n+1))+1 by omega,List.getElem?_cons_succ]
    ·have h3:¬n≤i:=(by omega);simp [h,h2,h3]
  |_=>simp [keyed,lkH,Nm.eqb,ih]
def callUps (ns:List Nm):List Nm→List (Option Blk)→List (Nm × Option Blk)
 |s::l,b::post=>(s,b.map (Blk.ren (backName ns)))::callUps ns l post
 |_,_=>[]
def renBs (ρ:Nm→Nm):List (Option Blk)→List (Option Blk)
 |[]=>[]
 |b::l=>b.map (Blk.ren ρ)::renBs ρ l
theorem renBs_get (ρ:Nm→Nm):∀(l:List (Option Blk)) (j:Nat),(renBs ρ l)[j]?=(l[j]?).map (Option.map (Blk.ren ρ))
 |[],j=>by simp [renBs]
 |x::l,0=>by simp [renBs]
 |x::l,j+1=>by simp [renBs,renBs_get ρ l j]
def blksOf (L:LS):List Nm→List (Option Blk)
 |[]=>[]
 |s::l=>L.blk s::blksOf L l
theorem blksOf_get (L:LS):∀(l:List Nm) (j:Nat),(blksOf L l)[j]?=(l[j]?).map L.blk
 |[],j=>by simp [blksOf]
 |x::l,0=>by simp [blksOf]
 |x::l,j+1=>by simp [blksOf,blksOf_get L l j]
theorem callUps_get {ns l:List Nm}{post:List (Option Blk)}{s:Nm}{b:Option Blk}(h:upsGet (callUps ns l post) s=some b):∃(i:Nat) (c:Option Blk),l[i]?=some s∧post[i]?=some c∧b=c.map (Blk.ren (backName ns)):=by
 induction l generalizing post with
 |nil=>simp [callUps,upsGet] at h
 |cons x l ih=>
  cases post with
  |nil=>simp [callUps,upsGet] at h
  |cons c post=>
   simp only [callUps,upsGet] at h;cases hg:upsGet (callUps ns l post) s with
   |some y=>
    rw [hg] at h;cases h;obtain ⟨i,c',h1,h2,h3⟩:=ih hg;exact ⟨i+1,c',by simpa using h1,by simpa using h2,h3⟩
   |none=>
    rw [hg] at h;by_cases hx:x=s
    ·simp [hx] at h;exact ⟨0,c,by simp [hx],rfl,h.symm⟩
    ·simp [hx] at h
theorem callUps_keys (ns:List Nm):∀(l:List Nm) (post:List (Option Blk)),post.length=l.length→(callUps ns l post).map (·.1)=l
 |[],_,_=>by simp [callUps]
 |s::l,[],h=>by simp at h
 |s::l,b::post,h=>by simp [callUps,callUps_keys ns l post (by simpa using h)]
theorem sem1_call {C:Ctx}{o:Oper}{L:LS}{c:Call}{x:Operand}{g:FuncId}{fng:Func}{first caps:List AV}{args:List AV}{ns:List Nm}{pre post:List (Option Blk)}{v:AV}(hdst:∀d,o.dst=some d→d<C.fn.ntmps)(ho:o.op = .call c)(hc:c.callee = .value x)
 (hx:L.ev x = .fn (.func g) first caps) (hf:C.P.funcs[g]?=some fng) (hn:(fng.name == "runtime.NumGoroutine")=false) (hb:fng.body.isNone=false)
 (hargs:AV.ren.renL (inName ns) (first++evL L c.args.toList++caps)=args) (hpre:renBs (inName ns) (blksOf L ns)=pre) (hall:∀s∈ns,∃b,L.blk s=some b) (hnd:ns.Nodup) (hlen:post.length=ns.length)
 (hv:onlyArgs ns.length v.ments=true) (hpost:onlyArgs ns.length (blksMents post)=true) (h:ACalls C.P C.Gl g args pre v post) :
 Sem1 C o L.ev (ns.filterMap fun s=>(L.blk s).map fun b=>(s,b)) ⟨v.ren (backName ns),callUps ns ns post⟩:=by
 intro L' hd F a w hev hfp _ hi K Q hK;have hblk:∀s∈ns,L'.blk s=L.blk s:=fun s hs=>by
  obtain ⟨b,hb⟩:=hall s hs;rw [hb];exact hfp (s,b) (List.mem_filterMap.2 ⟨s,hs,by simp [hb]⟩)
 have hops:∀y∈c.args.toList,y∈o.op.operands.toList:=fun y hy=>by simp [ho,Op.operands,Call.operands,hc];right;simpa using hy
 have hxo:x∈o.op.operands.toList:=by simp [ho,Op.operands,Call.operands,hc]
 have hxv:=ev_rep hi x;rw [hev x hxo,hx] at hxv;generalize hz:a.eval x=z at hxv;cases hxv with
 |fn _ _ _ va vb q1 q2 q3 q4=>
  -- the arguments
  have hreps:∀(j:Nat) (y:AV) (u:Value),(first++evL L c.args.toList++caps)[j]?=some y→(va++c.args.toList.map a.eval++vb)[j]?=some u→Rep w F hd y u:=by
   intro j y u hj hu;have he:(evL L c.args.toList).length=(c.args.toList.map a.eval).length:=(by simp [evL_len]);rw [List.getElem?_append,List.length_append] at hj hu;rw [←q1,he] at hj;by_cases h1:j<va.length+(c.args.toList.map a.eval).length
   ·rw [if_pos h1] at hj hu;rw [List.getElem?_append] at hj hu;rw [←q1] at hj;by_cases h2:j<va.length
    ·rw [if_pos h2] at hj hu;exact q3 j y u hj hu
    ·rw [if_neg h2] at hj hu;rw [evL_get] at hj;rw [List.getElem?_map] at hu;cases hqj:c.args.toList[j-va.length]? with
     |none=>rw [hqj] at hj;cases hj
     |some p=>
      rw [hqj] at hj hu;cases hj;cases hu;have hp:=ev_rep hi p;rw [hev p (hops p (List.mem_of_getElem? hqj))] at hp;exact hp
   ·rw [if_neg h1] at hj hu;exact q4 _ y u hj hu
  have hreps':∀(j:Nat) (y:AV) (u:Value),args[j]?=some y→(va++c.args.toList.map a.eval++vb)[j]?=some u→Rep w F (inHd ns hd) y u:=by
   intro j y u hj hu;rw [←hargs,renL_get] at hj;cases hlj:(first++evL L c.args.toList++caps)[j]? with
   |none=>rw [hlj] at hj;cases hj
   |some p=>rw [hlj] at hj;cases hj;exact (hreps j p u hlj hu).ren fun r _=>inHd_in ns hd r
  -- the blocks
  have hinown:∀r k,(inHd ns hd r).owns k→∃i s,r = .arg i∧ns[i]?=some s∧(hd s).owns k:=by
   intro r k hk;cases r with
   |arg i=>
    simp only [inHd] at hk;cases hi':ns[i]? with
    |none=>rw [hi'] at hk;exact hk.elim
    |some s=>rw [hi'] at hk;exact ⟨i,s,rfl,hi',hk⟩
   |_=>exact hk.elim
  have hnsinj:∀i j s,ns[i]?=some s→ns[j]?=some s→i=j:=fun i j s h1 h2=>by
   have hl1:=(List.getElem?_eq_some_iff.1 h1).1;exact (List.getElem?_inj hl1 hnd).1 (h1.trans h2.symm)
  have hlies:Lies w F (inHd ns hd) (keyed 0 pre):=by
   refine ⟨fun k hk=>(hi.fin k hk).1,fun r s k hne h1 h2=>?_,fun r k hk=>?_,fun r=>?_⟩
   ·obtain ⟨i,s1,rfl,e1,o1⟩:=hinown r k h1;obtain ⟨j,s2,rfl,e2,o2⟩:=hinown s k h2;have:s1≠s2:=fun e=>hne (by rw [hnsinj i j s1 e1 (e ▸ e2)]);exact hi.sep s1 s2 k this o1 o2
   ·obtain ⟨i,s1,rfl,e1,o1⟩:=hinown r k hk;exact ⟨(hi.mine s1 k o1).1,(hi.mine s1 k o1).2.1⟩
   ·rw [lkH_keyed];cases r with
    |arg i=>
     simp only [Nat.zero_le,if_true,Nat.sub_zero];rw [←hpre,renBs_get,blksOf_get];cases hi':ns[i]? with
     |none=>simp [HoldB,inHd,hi']
     |some s=>
      have hs:=List.mem_of_getElem? hi';obtain ⟨b,hb⟩:=hall s hs;have hbl:=hi.blocks s;rw [hblk s hs,hb] at hbl;simp only [Option.map_some,hb,Option.getD_some];exact hbl.ren (by simp [inHd,hi']) fun m _=>inHd_in ns hd m
    |_=>exact rfl
  have hcall:=h w F (inHd ns hd) (va++c.args.toList.map a.eval++vb) hi.gl hlies (by rw [←hargs,renL_len];simp [q1,q2,evL_len]) hreps';have hrun:(execOp a.eval o).run C.P w = .ok (.enter g (va++c.args.toList.map a.eval++vb).toArray) w:=by
   have e:(va++c.args.toList.map a.eval++vb).toArray=va.toArray++c.args.map a.eval++vb.toArray:=by
    apply Array.ext';simp
   have hb':¬fng.body=none:=fun h=>by rw [h] at hb;cases hb
   have hn':¬fng.name = "runtime.NumGoroutine":=(by simpa using hn);simp [execOp,ho,resolve,hc,hz,Deferred.ofValue,invoke,callFunc,hf,hn',hb']
  unfold Oper.wp;rw [hrun];refine hcall.mono fun e w' he=>?_;obtain ⟨cv,F',hd',rfl,hr,hl',hle⟩:=he
  -- where the blocks lie behind the call
  let hdn:Nm→Hd:=fun s=>match inName ns s with
   |.arg i=>hd' (.arg i)
   |_=>hd s
  have hin:∀s,s∈ns→∃i,inName ns s = .arg i∧ns[i]?=some s:=fun s hs=>by
   rcases inName_go (ns:=ns) (s:=s) (l:=ns) (i:=0) (fun j=>by simp) with e|⟨j,e,hj⟩
   ·exfalso;clear hcall hlies hreps' hreps hrun hblk hnsinj hall hle hl' hlen hv hpost;have:∀(l:List Nm) (i:Nat),s∈l→inName.go s l i≠.out 0:=by
     intro l;induction l with
     |nil=>intro i hs;cases hs
     |cons x l ih=>
      intro i hs;simp only [inName.go];split
      ·simp
      ·rename_i hx;rcases List.mem_cons.1 hs with rfl|hs
       ·exact absurd ((Nm.eqb_iff _ _).2 rfl) hx
       ·exact ih _ hs
    exact this ns 0 hs e
   ·exact ⟨j,e,hj⟩
  have hout:∀s,s∉ns→hdn s=hd s:=fun s hs=>by
   rcases inName_go (ns:=ns) (s:=s) (l:=ns) (i:=0) (fun j=>by simp) with e|⟨j,e,hj⟩
   ·simp only [hdn];unfold inName;rw [e]
   ·exact absurd (List.mem_of_getElem? hj) hs
  have hdn_in:∀i s,ns[i]?=some s→hdn s=hd' (.arg i):=fun i s hs=>by
   obtain ⟨j,e,hj⟩:=hin s (List.mem_of_getElem? hs);have:=hnsinj i j s hs hj;subst this;simp only [hdn,e]
  have hdn_or:∀s,hdn s=hd s∨hdn s = .dead:=fun s=>by
   by_cases hs:s∈ns
   ·obtain ⟨i,_,hj⟩:=hin s hs;rw [hdn_in i s hj];have:=hle.kept i;simp only [inHd,hj] at this;exact this
   ·exact .inl (hout s hs)
  have hdn_own:∀s k,(hdn s).owns k→(hd s).owns k:=fun s k hk=>by
   rcases hdn_or s with e|e
   ·exact e ▸ hk
   ·rw [e] at hk;exact hk.elim
  have hsame:∀k,k<w.heap.size→(∀s∈ns,¬(hd s).owns k)→w'.heap[k]?=w.heap[k]?:=fun k hk hno=>hle.old k hk fun ⟨r,hr⟩=>by
   obtain ⟨i,s,_,hs,ho⟩:=hinown r k hr;exact hno s (List.mem_of_getElem? hs) ho
  have hF:∀k,F k→w'.heap[k]?=w.heap[k]?:=fun k hk=>hsame k (hi.fin k hk).1 fun s _ ho=>(hi.mine s k ho).1 hk;have hFF:∀k,F k→F' k:=hle.more;have hkeys:=callUps_keys ns ns post hlen;have hinv:Inv C (L'.upd (callUps ns ns post)) hdn F' a w':=by
   refine { slots:=fun t=>?_,blocks:=fun r=>?_,sep:=fun r s k hne h1 h2=>hi.sep r s k hne (hdn_own r k h1) (hdn_own s k h2),mine:=fun r k hk=>⟨?_,?_,(hi.mine r k (hdn_own r k hk)).2.2⟩,fin:=fun k hk=>⟨hl'.fin k hk,?_⟩,more:=fun k hk=>hFF k (hi.more k hk),kept:=fun i=>?_,gl:=C.Gl.mono hi.gl hF hFF,os:=hle.os.trans hi.os,tape:=hle.tape.trans hi.tape,output:=hle.output.trans hi.output,size:=Nat.le_trans hi.size hle.size,old:=fun k hk hm=>?_,ntmps:=hi.ntmps,defers:=hi.defers }
   ·have:(L'.upd (callUps ns ns post)).get t=L'.get t:=(by simp [LS.get,upd_blk]);rw [this];exact (hi.slots t).mono hF hFF fun r _=>hdn_or r
   ·rw [upd_get];by_cases hr:r∈ns
    ·obtain ⟨i,_,hj⟩:=hin r hr;have hlti:i<post.length:=(by rw [hlen];exact (List.getElem?_eq_some_iff.1 hj).1);cases hu:upsGet (callUps ns ns post) r with
     |none=>
      exfalso;have:∀(ups:List (Nm × Option Blk)),r∈ups.map (·.1)→upsGet ups r≠none:=by
       intro ups;induction ups with
       |nil=>intro h;simp at h
       |cons y l ih=>
        obtain ⟨k,b⟩:=y;intro h hn;simp only [upsGet] at hn;cases hl:upsGet l r with
        |some z=>rw [hl] at hn;cases hn
        |none=>
         rw [hl] at hn;by_cases hk:k=r
         ·simp [hk] at hn
         ·rcases List.mem_cons.1 h with h|h
          ·exact hk h.symm
          ·exact ih h hl
      exact this _ (by rw [hkeys];exact hr) hu
     |some b=>
      obtain ⟨i',c',e1,e2,rfl⟩:=callUps_get hu;obtain rfl:=hnsinj i' i r e1 hj;have hh:=hl'.holds (.arg i');rw [lkH_keyed] at hh;simp only [Nat.zero_le,if_true,Nat.sub_zero,e2,Option.getD_some] at hh ⊢;cases c' with
      |none=>exact (hdn_in i' r hj).trans hh
      |some b=>
       simp only [Option.map_some];refine hh.ren (hdn_in i' r hj) fun m hm=>?_;obtain ⟨j,rfl,hj'⟩:=onlyArgs_spec hpost m (blksMents_mem e2 m hm);left;simp only [backName];rw [List.getD_eq_getElem?_getD,List.getElem?_eq_getElem hj',Option.getD_some];exact hdn_in j _ (List.getElem?_eq_getElem hj')
    ·rw [upsGet_none (by rw [hkeys];exact hr),Option.getD_none];exact (hi.blocks r).mono hF hFF (hout r hr) (fun k hk=>hsame k (hi.mine r k hk).2.1 fun s hs ho=>hi.sep r s k (fun e=>hr (e ▸ hs)) hk ho) fun c hc s hs=>hdn_or s
   ·by_cases hr:r∈ns
    ·obtain ⟨i,_,hj⟩:=hin r hr;rw [hdn_in i r hj] at hk;exact (hl'.mine _ k hk).1
    ·rw [hout r hr] at hk;intro hk';rcases hle.fin k hk' with h1|h1|⟨s,hs⟩
     ·exact (hi.mine r k hk).1 h1
     ·have:=(hi.mine r k hk).2.1;omega
     ·obtain ⟨i,s',_,hs',ho⟩:=hinown s k hs;exact hi.sep r s' k (fun e=>hr (e ▸ List.mem_of_getElem? hs')) hk ho
   ·exact Nat.lt_of_lt_of_le (hi.mine r k (hdn_own r k hk)).2.1 hle.size
   ·rcases hle.fin k hk with h1|h1|⟨s,hs⟩
    ·exact (hi.fin k h1).2
    ·exact .inr (.inl (Nat.le_trans hi.size h1))
    ·obtain ⟨i,s',_,hs',ho⟩:=hinown s k hs;exact .inr (hi.mine s' k ho).2.2
   ·rcases hdn_or (.arg i) with e|e
    ·rw [e];exact hi.kept i
    ·exact .inr e
   ·rw [←hi.old k hk hm];refine hsame k (Nat.lt_of_lt_of_le hk hi.size) fun s _ ho=>?_;rcases (hi.mine s k ho).2.2 with h1|h1
    ·omega
    ·exact hm h1
  refine hK _ _ hdn F' (hinv.put o.dst (hr.ren fun r hr'=>?_) hdst);obtain ⟨j,rfl,hj'⟩:=onlyArgs_spec hv r hr';left;simp only [backName];rw [List.getD_eq_getElem?_getD,List.getElem?_eq_getElem hj',Option.getD_some];exact hdn_in j _ (List.getElem?_eq_getElem hj')
end Go.Abs
