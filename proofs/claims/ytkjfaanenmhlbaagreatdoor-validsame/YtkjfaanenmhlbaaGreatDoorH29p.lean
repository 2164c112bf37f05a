/-
  A TABLE THAT IS MADE ONCE; an expression's dfa.
-/
import Derived.Test.YtkjfaanenmhlbaaGreatDoorZ5
import Derived.Test.YtkjfaanenmhlbaaGreatDoorG17
import Derived.Test.YtkjfaanenmhlbaaGreatDoorH21
import Derived.Test.YtkjfaanenmhlbaaGreatDoorH13
import Derived.Test.YtkjfaanenmhlbaaGreatDoorL2
import Derived.Test.YtkjfaanenmhlbaaGreatDoorL6
import Derived.Test.YtkjfaanenmhlbaaGreatDoorG12
import Derived.Test.YtkjfaanenmhlbaaGreatDoorG3
import Derived.Test.YtkjfaanenmhlbaaGreatDoorAbsMB
import Derived.Test.YtkjfaanenmhlbaaGreatDoorH25
import Derived.Test.YtkjfaanenmhlbaaGreatDoorG7
set_option linter.unusedVariables false
set_option linter.unusedSimpArgs false
namespace Go.Proofs.D
open Go Go.Abs Go.RowKit
theorem lies_set {w:World}{F:Nat→Prop}{hd:Nm→Hd}{H H':List (Nm × Option Blk)}(hl:Lies w F hd H){r:Nm}{k ty j:Nat}{cs:List AV}{c:AV}{v:Value}(hr:lkH H r=some (.box ty cs))(hk:hd r = .box k)(hj:j<cs.length)
 (hv:∀w',Rep w' F hd c v) (h1:v.oneCell'=true) (hH:∀s,lkH H' s=if s=r then some (.box ty (cs.set j c)) else lkH H s) :
 Lies (w.setCell ⟨k,j,none⟩ v) F hd H'∧(∀i,i≠k→(w.setCell ⟨k,j,none⟩ v).heap[i]?=w.heap[i]?)∧(w.setCell ⟨k,j,none⟩ v).heap.size=w.heap.size:=by
 have hb:=hl.holds r;rw [hr] at hb;obtain ⟨k',arr,q1,q2,q3,q4,q5⟩:=hb;rw [hk] at q1;cases q1;have hother:∀i,i≠k→(w.setCell ⟨k,j,none⟩ v).heap[i]?=w.heap[i]?:=fun i hi=>Below.heap_setCell w ⟨k,j,none⟩ v i hi;have hsame:=heap_setCell_same w k j arr ty v q2;have hsz:(w.setCell ⟨k,j,none⟩ v).heap.size=w.heap.size:=by simp [World.setCell]
 have hkF:¬F k:=(hl.mine r k (by rw [hk];exact rfl)).1;have hF:∀i,F i→(w.setCell ⟨k,j,none⟩ v).heap[i]?=w.heap[i]?:=fun i hi=>hother i fun e=>hkF (e ▸ hi);refine ⟨⟨fun i hi=>by rw [hsz];exact hl.fin i hi,hl.sep,fun s i hi=>by rw [hsz];exact hl.mine s i hi,fun s=>?_⟩,hother,hsz⟩;rw [hH s];split
 ·rename_i e;subst e;refine ⟨k,arr.setIfInBounds j v,hk,hsame,by simp [q3],fun i c' u hc hu=>?_,fun u hu=>?_⟩
  ·rw [Array.getElem?_setIfInBounds] at hu;rw [List.getElem?_set] at hc;by_cases hij:j=i
   ·subst hij;have hja:j<arr.size:=(by omega);simp [hj] at hc;simp [hja] at hu;subst hc hu;exact hv _
   ·rw [if_neg hij] at hc hu;exact (q4 i c' u hc hu).mono hF (fun _ h=>h) fun _ _=>.inl rfl
  ·obtain ⟨i,hi⟩:=List.getElem?_of_mem hu;rw [Array.getElem?_toList,Array.getElem?_setIfInBounds] at hi;split at hi
   ·split at hi
    ·cases hi;exact h1
    ·cases hi
   ·exact q5 u (List.mem_of_getElem? (by rw [Array.getElem?_toList];exact hi))
 ·rename_i hsr;refine (hl.holds s).mono hF (fun _ h=>h) rfl (fun i hi=>hother i fun e=>?_) fun _ _ _ _=>.inl rfl;subst e;exact hl.sep s r i hsr hi (by rw [hk];exact rfl)
theorem left_set {w0 w w':World}{F0 F:Nat→Prop}{hd0 hd:Nm→Hd}(h:Go.Abs.Left w0 F0 hd0 w F hd){r:Nm}{k:Nat}(hk:hd r = .box k)(hother:∀i,i≠k→w'.heap[i]?=w.heap[i]?)(hsz:w'.heap.size=w.heap.size)(hos:w'.os=w.os)(htape:w'.tape=w.tape)(hout:w'.output=w.output):Go.Abs.Left w0 F0 hd0 w' F hd:=by
 refine ⟨h.mine,h.fin,h.more,h.kept,hos.trans h.os,htape.trans h.tape,hout.trans h.output,by rw [hsz];exact h.size,fun i hi hn=>?_⟩;rw [hother i fun e=>?_]
 ·exact h.old i hi hn
 ·subst e;rcases h.mine r i (by rw [hk];exact rfl) with g|g
  ·omega
  ·exact hn g
def tabC (a b:Int)(e:E)(d:List AV):List AV:=.pv (.val (.int .u32 a)) :: .pv (.val (.int .i32 b)) :: .pv (.val (.int .u32 0))::(e.cells++d)
abbrev no3:List AV:=[nm0,nm0,nm0]
theorem whole_fit {e:E}(he:Tame e):(whole e).next.length≤16777216∧(whole e).names.length≤1000:=by
 obtain ⟨hs,_⟩:=whole_sem e he.1 he.2;have h1:=hs.len;have h2:(whole e).final.length=(wholeM e BW).1.length:=by simp only [whole,List.length_map]
 have h3:=wholeM_len he.2 BW;have h4:=names_len he;refine ⟨?_,Nat.le_trans h4 (by decide)⟩;rw [←h1,h2];exact Nat.le_trans h3 (Nat.le_of_eq rfl)
theorem h91 (e:E)(he:Tame e):Fun Tryz.prog tab10 179 [.ptr (.arg 1) 0] [some (.box 209 (tabC 0 1 e no3)),some (.box 207 [.ptr (.arg 0) 0])] (.tup []) [some (.box 209 (tabC 0 1 e e.dfa.cells)),some (.box 207 [.ptr (.arg 0) 0])]:=by
 obtain ⟨hs,_⟩:=whole_sem e he.1 he.2;obtain ⟨f1,f2⟩:=whole_fit he;have hnd:(whole e).names.Nodup:=names_nodup e;have hl:=h92 (whole e) hs hnd (hs.toSem0.lim hnd) f2 f1;have hw:=h93 tab10 e he;have hdfa:leastA (whole e) (wholeL e)=e.dfa:=rfl;rw [hdfa] at hl;generalize whole e=d at hw hl;refine fun_of (T:=T5) (n:=10) (rs:=[]) Tryz.func179 (by kernel_rfl) rfl rfl rfl tok5 mixed (by simp) fun C hC=>?_;refine hC.drawn (by kernel_rfl) (by simp [tabC,E.cells]) ?_;refine hC.go [] 60 ?_;simp [tabC,E.cells];refine hC.call [] hw (by simp [E.av,E.cells,Au.av,Au.cells]) ?_;refine hC.go [] 60 ?_;simp [Au.av,Au.cells];refine hC.call [] hl (by simp [Au.av,Au.cells]) ?_;refine hC.go [] 60 ?_;simp [Au.av,Au.cells,tabC,E.cells]
theorem lkH_two (b0 b1:Blk)(s:Nm):lkH (keyed 0 [some b0,some b1]) s=if s = .arg 0 then some b0 else if s = .arg 1 then some b1 else none:=by
 simp only [keyed,lkH,Nm.eqb_iff];by_cases h0:s = .arg 0
 ·subst h0;simp
 ·have h0':¬Nm.arg 0=s:=fun e=>h0 e.symm;by_cases h1:s = .arg 1
  ·subst h1;simp
  ·have h1':¬Nm.arg 1=s:=fun e=>h1 e.symm;simp [h0,h0',h1,h1']
set_option maxHeartbeats 2000000 in
theorem h90 (e:E)(he:Tame e):Fun Tryz.prog tab10 178 [.ptr (.arg 0) 0,.fn (.func 179) [] [.ptr (.arg 1) 0]] [some (.box 209 (tabC 0 0 e no3)),some (.box 207 [.ptr (.arg 0) 0])] (.tup []) [some (.box 209 (tabC 1 0 e e.dfa.cells)),some (.box 207 [.ptr (.arg 0) 0])]:=by
 refine ⟨⟨_,Tryz.func178,by kernel_rfl,rfl⟩,fun w0 F0 hd0 cargs hg hl hlen hr=>?_⟩;have hlk:=lkH_two (.box 209 (tabC 0 0 e no3)) (.box 207 [.ptr (.arg 0) 0]);have hb0:=hl.holds (.arg 0);have hb1:=hl.holds (.arg 1);rw [hlk] at hb0 hb1;simp only [if_true,reduceCtorEq,if_false] at hb0 hb1
 match cargs,hlen with
 |[c0,c1],_=>
  have r0:=hr 0 _ c0 rfl rfl;have r1:=hr 1 _ c1 rfl rfl;obtain ⟨k,arr,k1,k2,k3,k4,k5⟩:=hb0;have hb1':∃m arr1,hd0 (.arg 1) = .box m∧w0.heap[m]?=some (.cells arr1 207 (0,0)):=by
   simp at hb1;obtain ⟨m,arr1,m1,m2,_⟩:=hb1;exact ⟨m,arr1,m1,m2⟩
  obtain ⟨m,arr1,m1,m2⟩:=hb1';have e0:c0 = .pointer (some ⟨k,0,none⟩):=by cases r0 with|ptr _ _ _ _ h=>exact h k k1
  subst e0;cases r1 with
  |fn _ _ _ va vb ha hb h h'=>
   match va,ha,vb,hb with
   |[],_,[u],_=>
    have eu:u = .pointer (some ⟨m,0,none⟩):=by
     have:=h' 0 _ u rfl rfl;cases this with|ptr _ _ _ _ h=>exact h m m1
    subst eu;have hsz9:arr.size=9:=(by rw [k3];rfl);have a0:arr[0]?=some (.int .u32 0):=by
     have:arr[0]?=some arr[0]:=(by simp [hsz9]);rw [this,bool_of (k4 0 _ _ rfl this)]
    have a1:arr[1]?=some (.int .i32 0):=by
     have:arr[1]?=some arr[1]:=(by simp [hsz9]);rw [this,bool_of (k4 1 _ _ rfl this)]
    have hcell:∀(w:World) (cs:Array Value) (j:Nat),w.heap[k]?=some (.cells cs 209 (0,0))→w.cell? ⟨k,j,none⟩=cs[j]?:=fun w cs j hw=>by simp [World.cell?,hw]
    have hfz:∀(w:World) (cs:Array Value) (j:Nat),w.heap[k]?=some (.cells cs 209 (0,0))→w.frozen? ⟨k,j,none⟩=false:=fun w cs j hw=>frozen_of_row w k j cs 209 hw;obtain ⟨l1,o1,s1⟩:=lies_set (H':=keyed 0 [some (.box 209 (tabC 0 1 e no3)),some (.box 207 [.ptr (.arg 0) 0])]) hl (r:=.arg 0) (k:=k) (ty:=209) (j:=1) (cs:=tabC 0 0 e no3) (c:=.pv (.val (.int .i32 1))) (v:=.int .i32 1) (by rw [hlk];simp) k1 (by simp [tabC]) (fun _=>rep_val rfl) rfl (fun s=>by rw [lkH_two,hlk];split<;>rfl);obtain ⟨w1,hw1⟩:∃w1,w0.setCell ⟨k,1,none⟩ (.int .i32 1)=w1:=⟨_,rfl⟩;rw [hw1] at l1 o1 s1;have hkF:∀i,F0 i→i≠k:=fun i hi e=>(hl.mine (.arg 0) k (by rw [k1];exact rfl)).1 (e ▸ hi);have hcall:=(h91 e he).calls w1 F0 hd0 [.pointer (some ⟨m,0,none⟩)] (tab10.mono hg (fun i hi=>o1 i (hkF i hi)) fun _ h=>h) l1 rfl (fun j x c hx hc=>by
     match j,hx,hc with
     |0,hx,hc=>
      simp at hx hc;subst hx hc;exact .ptr _ _ _ rfl fun q hq=>by rw [m1] at hq;cases hq;rfl)
    have hw1os:w1.os=w0.os∧w1.tape=w0.tape∧w1.output=w0.output:=(by rw [←hw1];exact ⟨rfl,rfl,rfl⟩);have hleft1:∀w F hd,Go.Abs.Left w1 F0 hd0 w F hd→Go.Abs.Left w0 F0 hd0 w F hd:=fun w F hd h=>by
     refine ⟨fun r i hi=>by rw [←s1];exact h.mine r i hi,fun i hi=>by rw [←s1];exact h.fin i hi,h.more,h.kept,h.os.trans hw1os.1,h.tape.trans hw1os.2.1,h.output.trans hw1os.2.2,by rw [←s1];exact h.size,fun i hi hn=>?_⟩;rw [h.old i (by rw [s1];exact hi) hn];exact o1 i fun e=>hn ⟨.arg 0,by rw [e,k1];exact rfl⟩
    have hfin:∀w F hd,Lies w F hd (keyed 0 [some (.box 209 (tabC 0 1 e e.dfa.cells)),some (.box 207 [.ptr (.arg 0) 0])])→Go.Abs.Left w1 F0 hd0 w F hd→hd (.arg 0) = .box k∧∃cs,w.heap[k]?=some (.cells cs 209 (0,0))∧cs[0]?=some (.int .u32 0)∧cs[1]?=some (.int .i32 1):=fun w F hd hL hLeft=>by
     have hb:=hL.holds (.arg 0);rw [lkH_two] at hb;simp only [if_true] at hb;obtain ⟨k',cs,p1,p2,p3,p4,p5⟩:=hb;have hkk:hd (.arg 0) = .box k:=by
      rcases hLeft.kept 0 with g|g
      ·rw [g,k1]
      ·rw [g] at p1;cases p1
     rw [hkk] at p1;cases p1;have hs9:cs.size=9:=(by rw [p3];rfl);refine ⟨hkk,cs,p2,?_,?_⟩
     ·have:cs[0]?=some cs[0]:=(by simp [hs9]);rw [this,bool_of (p4 0 _ _ rfl this)]
     ·have:cs[1]?=some cs[1]:=(by simp [hs9]);rw [this,bool_of (p4 1 _ _ rfl this)]
    refine (do_of k ⟨m,0,none⟩ w0 ?_ ?_ ?_ ?_ (fun w=>∃F hd,Lies w F hd (keyed 0 [some (.box 209 (tabC 0 1 e e.dfa.cells)),some (.box 207 [.ptr (.arg 0) 0])])∧Go.Abs.Left w1 F0 hd0 w F hd) ?_ ?_).mono ?_
    ·rw [hcell w0 arr 0 k2,a0]
    ·rw [hcell w0 arr 1 k2,a1]
    ·exact hfz w0 arr 0 k2
    ·exact hfz w0 arr 1 k2
    ·rw [hw1];refine hcall.mono ?_
     rintro e' w' ⟨cv,F,hd,rfl,hcv,hL,hLeft⟩
     refine ⟨?_,F,hd,hL,hLeft⟩;cases hcv with
     |tup _ cs hl' _=>
      match cs,hl' with
      |[],_=>rfl
    ·rintro w' ⟨F,hd,hL,hLeft⟩
     obtain ⟨_,cs,p1,p2,p3⟩:=hfin w' F hd hL hLeft;exact ⟨by rw [hcell w' cs 0 p1,p2],by rw [hcell w' cs 1 p1,p3],hfz w' cs 0 p1,hfz w' cs 1 p1⟩
    ·rintro e' w'' ⟨rfl,w',⟨F,hd,hL,hLeft⟩,rfl⟩
     obtain ⟨hkk,cs,p1,p2,p3⟩:=hfin w' F hd hL hLeft;have hLd:Lies w'.drew F hd (keyed 0 [some (.box 209 (tabC 0 1 e e.dfa.cells)),some (.box 207 [.ptr (.arg 0) 0])]):=⟨hL.fin,hL.sep,hL.mine,fun s=>(hL.holds s).mono (fun _ _=>rfl) (fun _ h=>h) rfl (fun _ _=>rfl) fun _ _ _ _=>.inl rfl⟩;have hLeftd:Go.Abs.Left w0 F0 hd0 w'.drew F hd:=by
      have:=hleft1 w' F hd hLeft;exact ⟨this.mine,this.fin,this.more,this.kept,this.os,this.tape,this.output,this.size,this.old⟩
     obtain ⟨l2,o2,s2⟩:=lies_set (H':=keyed 0 [some (.box 209 (tabC 1 1 e e.dfa.cells)),some (.box 207 [.ptr (.arg 0) 0])]) hLd (r:=.arg 0) (k:=k) (ty:=209) (j:=0) (cs:=tabC 0 1 e e.dfa.cells) (c:=.pv (.val (.int .u32 1))) (v:=.int .u32 1) (by rw [lkH_two];simp) hkk (by simp [tabC]) (fun _=>rep_val rfl) rfl (fun s=>by rw [lkH_two,lkH_two];split<;>rfl);have hLeft2:=left_set hLeftd hkk o2 s2 rfl rfl rfl;obtain ⟨l3,o3,s3⟩:=lies_set (H':=keyed 0 [some (.box 209 (tabC 1 0 e e.dfa.cells)),some (.box 207 [.ptr (.arg 0) 0])]) l2 (r:=.arg 0) (k:=k) (ty:=209) (j:=1) (cs:=tabC 1 1 e e.dfa.cells) (c:=.pv (.val (.int .i32 0))) (v:=.int .i32 0) (by rw [lkH_two];simp) hkk (by simp [tabC]) (fun _=>rep_val rfl) rfl (fun s=>by rw [lkH_two,lkH_two];split<;>rfl);have hLeft3:=left_set hLeft2 hkk o3 s3 rfl rfl rfl;exact ⟨_,F,hd,rfl,.tup [] [] rfl (fun j c v h1 h2=>by simp at h1),l3,hLeft3⟩
def T6:TT:=(196,⟨true,3,12,[.val (.int .u32 0),.val (.int .i32 0),.val (.int .u32 0)],.str [(0,186),(0,190),(1,194)]⟩)::T5
theorem tok6:TOk Tryz.prog T6:=tok_cons (tok1 (z:=.agg #[.int .u32 0,.int .i32 0,.int .u32 0]) Tryz.isAgg196 (by kernel_rfl) rfl rfl rfl (by decide) ⟨_,Tryz.underlying196,rfl⟩) tok5
attribute [local simp] T6
theorem h45 (e:E)(he:Tame e):Fun Tryz.prog tab10 124 [.ptr (.arg 0) 0] [some (.box 209 (tabC 0 0 e no3))] e.dfa.av [some (.box 209 (tabC 1 0 e e.dfa.cells))]:=by
 refine fun_of (T:=T6) (n:=12) (rs:=[.cell 2 137]) Tryz.func124 (by kernel_rfl) rfl rfl rfl tok6 mixed (by simp) fun C hC=>?_;refine hC.go [] 60 ?_;simp [tabC,E.cells];refine hC.call [.arg 0,.loc 1] (h90 e he) (by simp [tabC,E.cells,Au.cells]) ?_;refine hC.go [] 60 ?_;simp [tabC,E.cells,Au.av,Au.cells]
noncomputable def E.dfaOf (e:E):AV:=if e.right=true then .tup [e.dfa.av,vI 0] else .tup [.agg [.pv (.ro 1 []),.pv (.ro 1 []),.pv (.ro 1 [])],vI 2]
theorem h17 (e:E)(hs:e.small)(hc:e.cnt≤1000000000):Fun Tryz.prog tab10 68 [e.av] [] e.dfaOf []:=by
 by_cases hr:e.right=true
 ·have he:=right_tame hr hc;rw [show e.dfaOf = .tup [e.dfa.av,vI 0] by rw [E.dfaOf,if_pos hr]];refine fun_of (T:=T6) (n:=14) (rs:=[.cell 2 137,.tmp 3]) Tryz.func68 (by kernel_rfl) rfl rfl rfl tok6 mixed (by simp) fun C hC=>?_;refine hC.go [] 60 ?_;simp [E.av,E.cells];refine hC.call [] (f18 tab10 e hs) (by simp [E.av,E.cells]) ?_;refine hC.go [] 60 ?_;simp [hr];refine hC.call [.loc 11] (h45 e he) (by simp [tabC,E.cells,Au.av,Au.cells]) ?_;refine hC.go [] 60 ?_;simp [tabC,E.cells,Au.av,Au.cells]
 ·have hr':e.right=false:=by simpa using hr
  rw [show e.dfaOf = .tup [.agg [.pv (.ro 1 []),.pv (.ro 1 []),.pv (.ro 1 [])],vI 2] by rw [E.dfaOf,if_neg hr]];refine fun_of (T:=T6) (n:=14) (rs:=[.cell 2 137,.tmp 3]) Tryz.func68 (by kernel_rfl) rfl rfl rfl tok6 mixed (by simp) fun C hC=>?_;refine hC.go [] 60 ?_;simp [E.av,E.cells];refine hC.call [] (f18 tab10 e hs) (by simp [E.av,E.cells]) ?_;refine hC.go [] 60 ?_;simp [hr']
end Go.Proofs.D
namespace Go.Proofs.D
open Go Go.Abs Go.RowKit
def aB:ByteArray:=⟨#[97]⟩
def bB:ByteArray:=⟨#[98]⟩
def l7:Nat→Row→Prop
 |0,w=>∃v,w=aB::v∧∀x∈v,x=bB
 |1,v=>∀x∈v,x=bB
 |_,_=>False
attribute [local simp] T6
end Go.Proofs.D
namespace Go.Proofs.D
open Go Go.Abs Go.RowKit
theorem dfa_fit {e:E}(he:Tame e):e.dfa.names.length≤1000:=(whole_fit he).2
attribute [local simp] T6
attribute [local simp] T6
end Go.Proofs.D
namespace Go.Proofs.D
open Go Go.Abs Go.RowKit
open Classical in
noncomputable def sameB (e f:E):Bool:=decide (∀w,e.L w↔f.L w)
open Classical in
theorem apart_same (e f:E):(!(apartR e f true).2)=sameB e f:=by
 cases h:(apartR e f true).2 with
 |false=>
  have:=apartR_false h;refine (decide_eq_true fun w=>?_).symm;have:=this w;unfold Dif at this;constructor
  ·intro h1;exact Classical.byContradiction fun h2=>this (.inl ⟨h1,h2⟩)
  ·intro h1;exact Classical.byContradiction fun h2=>this (.inr ⟨rfl,h1,h2⟩)
 |true=>
  obtain ⟨w,hw⟩:=apartR_true h;refine (decide_eq_false fun q=>?_).symm;rcases hw with ⟨h1,h2⟩|⟨_,h1,h2⟩
  ·exact h2 ((q w).1 h1)
  ·exact h2 ((q w).2 h1)
theorem c25 {e f:E}(he:Tame e)(hf:Tame f):Fun Tryz.prog tab10 69 [e.dfa.av,f.dfa.av] [] (vB (sameB e f)) []:=by
 obtain ⟨l1,m1⟩:=dfa_least he.1 he.2;obtain ⟨l2,m2⟩:=dfa_least hf.1 hf.2;rw [←apart_same];exact h25 tab10 l1 l2 he.2 hf.2 he.1 hf.1 m1 m2 (dfa_fit he) (dfa_fit hf)
theorem c17 {e:E}(hs:e.small)(hc:e.cnt≤1000000000)(hr:e.right=true):Fun Tryz.prog tab10 68 [e.av] [] (.tup [e.dfa.av,vI 0]) []:=by
 have:=h17 e hs hc
 rwa [show e.dfaOf = .tup [e.dfa.av,vI 0] by rw [E.dfaOf,if_pos hr]] at this
attribute [local simp] T6
end Go.Proofs.D
namespace Go.Proofs.D
open Go Go.Abs Go.RowKit
theorem same_iff {e f:E}:sameB e f=true↔∀w,e.L w↔f.L w:=by
 unfold sameB;simp
end Go.Proofs.D
