/-
  A CONTENT's TABLE, made once.
-/
import Derived.Test.YtkjfaanenmhlbaaGreatDoorZ7
import Derived.Test.YtkjfaanenmhlbaaGreatDoorJ1
import Derived.Test.YtkjfaanenmhlbaaGreatDoorS20
import Derived.Test.YtkjfaanenmhlbaaGreatDoorS0
import Derived.Test.YtkjfaanenmhlbaaGreatDoorG3
import Derived.Test.YtkjfaanenmhlbaaGreatDoorH29p
import Derived.Test.YtkjfaanenmhlbaaGreatDoorN4
import Derived.Test.YtkjfaanenmhlbaaGreatDoorAbsMB
import Derived.Test.YtkjfaanenmhlbaaGreatDoorB3
import Derived.Test.YtkjfaanenmhlbaaGreatDoorS5
import Derived.Test.YtkjfaanenmhlbaaGreatDoorR7
import Derived.Test.YtkjfaanenmhlbaaGreatDoorL2
import Derived.Test.YtkjfaanenmhlbaaGreatDoorK12
set_option linter.unusedVariables false
set_option linter.unusedSimpArgs false
namespace Go.Proofs.D
open Go Go.Abs Go.RowKit
set_option maxRecDepth 100000 in
set_option maxHeartbeats 3200000 in
theorem slow_ofC (b:Nat)(pl:Addr)(w:World)(h0:w.cell? ⟨b,5,none⟩=some (.int .u32 0))(h1:w.cell? ⟨b,6,none⟩=some (.int .i32 0))(f0:w.frozen? ⟨b,5,none⟩=false)(f1:w.frozen? ⟨b,6,none⟩=false)
 (R:World→Prop) (hf:Calls Tryz.prog 216 #[.pointer (some pl)] (w.setCell ⟨b,6,none⟩ (.int .i32 1)) fun e w'=>e = .returned (.tuple #[])∧R w')
 (hR:∀w',R w'→w'.cell? ⟨b,5,none⟩=some (.int .u32 0)∧w'.cell? ⟨b,6,none⟩=some (.int .i32 1)∧w'.frozen? ⟨b,5,none⟩=false∧w'.frozen? ⟨b,6,none⟩=false) :
 Calls Tryz.prog 228 #[.pointer (some ⟨b,5,none⟩),.func (.func 216) #[] #[.pointer (some pl)]] w fun e w'=>e = .returned (.tuple #[])∧∃w1,R w1∧w'=(w1.drew.setCell ⟨b,5,none⟩ (.int .u32 1)).setCell ⟨b,6,none⟩ (.int .i32 0):=by
 have hl:=run_call_load (P:=Tryz.prog) Tryz.func262 (by kernel_rfl) (by kernel_rfl) (by kernel_rfl) .u32 (by kernel_rfl) (w:=w.setCell ⟨b,6,none⟩ (.int .i32 1)) (a:=⟨b,5,none⟩) (x:=0) ((World.cell?_setCell_other _ ⟨b,6,none⟩ ⟨b,5,none⟩ _ (by simp)).trans h0);have hnot:∀(x:Bool) (w:World),(Op.unary .not (.bool x)).run Tryz.prog w = .ok (.bool (!x)) w:=fun _ _=>rfl
 go_enter_defers Tryz.func228,Tryz.ntmps228
 go_wp2_with (first|(go_at_call 263;refine (lock_free ⟨b,6,none⟩ _ (by go_simp) (by go_simp)).mono ?_;rintro e w' ⟨rfl,rfl⟩)|(go_at_call 216;refine hf.mono ?_;rintro e w1 ⟨rfl,hr⟩;obtain ⟨c0,c1,z0,z1⟩:=hR w1 hr)|(go_at_call 227;go_in))
 refine leaves_cons (f:=265) (args:=#[.pointer (some ⟨b,5,none⟩),.bool true]) (by simp) (by simp [go_sem]) ?_;refine (store_deferred ⟨b,5,none⟩ (.int .u32 0) .returning _ c0 z0).mono ?_
 rintro e u' w'' ⟨rfl,rfl,rfl⟩
 refine leaves_cons (f:=264) (args:=#[.pointer (some ⟨b,6,none⟩)]) (by simp [settle]) (by simp [go_sem]) ?_;refine (unlock_deferred ⟨b,6,none⟩ _ _ ?_ (by simp [z1])).mono ?_
 ·refine (World.cell?_setCell_other _ ⟨b,5,none⟩ ⟨b,6,none⟩ _ (by simp)).trans ?_;rw [World.cell?_drew];exact c1
 rintro e u' w'' ⟨rfl,rfl,rfl⟩
 simp [Leaves,settle,results,Tryz.results130];exact ⟨w1,hr,rfl⟩
set_option maxRecDepth 100000 in
set_option maxHeartbeats 3200000 in
theorem do_ofC (b:Nat)(pl:Addr)(w:World)(h0:w.cell? ⟨b,5,none⟩=some (.int .u32 0))(h1:w.cell? ⟨b,6,none⟩=some (.int .i32 0))(f0:w.frozen? ⟨b,5,none⟩=false)(f1:w.frozen? ⟨b,6,none⟩=false)
 (R:World→Prop) (hf:Calls Tryz.prog 216 #[.pointer (some pl)] (w.setCell ⟨b,6,none⟩ (.int .i32 1)) fun e w'=>e = .returned (.tuple #[])∧R w')
 (hR:∀w',R w'→w'.cell? ⟨b,5,none⟩=some (.int .u32 0)∧w'.cell? ⟨b,6,none⟩=some (.int .i32 1)∧w'.frozen? ⟨b,5,none⟩=false∧w'.frozen? ⟨b,6,none⟩=false) :
 Calls Tryz.prog 178 #[.pointer (some ⟨b,5,none⟩),.func (.func 216) #[] #[.pointer (some pl)]] w fun e w'=>e = .returned (.tuple #[])∧∃w1,R w1∧w'=(w1.drew.setCell ⟨b,5,none⟩ (.int .u32 1)).setCell ⟨b,6,none⟩ (.int .i32 0):=by
 have hl:=run_call_load (P:=Tryz.prog) Tryz.func262 (by kernel_rfl) (by kernel_rfl) (by kernel_rfl) .u32 (by kernel_rfl) h0;have hnot:∀(x:Bool) (w:World),(Op.unary .not (.bool x)).run Tryz.prog w = .ok (.bool (!x)) w:=fun _ _=>rfl;have hs:=slow_ofC b pl w h0 h1 f0 f1 R hf hR
 go_enter Tryz.func178,Tryz.ntmps178
 go_wp2_with (first|(go_at_call 228;refine hs.mono ?_;rintro e w' ⟨rfl,hw⟩)|(go_at_call 227;go_in))
 go_end0
 exact ⟨rfl,hw⟩
theorem v216 (kd:Kd)(he:Tame kd.content)(hs:kd.content.small)(hr:kd.content.right=true)(hc:kd.content.cnt≤1000000000):Fun Tryz.prog tab10 216 [.ptr (.arg 1) 0] [some (.box 198 (contA kd 0 1 no3)),some (.box 184 [.ptr (.arg 0) 0])] (.tup []) [some (.box 198 (contA kd 0 1 kd.content.dfa.cells)),some (.box 184 [.ptr (.arg 0) 0])]:=by
 have h:=h17 kd.content hs hc;rw [show kd.content.dfaOf = .tup [kd.content.dfa.av,vI 0] by rw [E.dfaOf,if_pos hr]] at h;refine fun_of (T:=T7) (n:=13) (rs:=[]) Tryz.func216 (by kernel_rfl) rfl rfl rfl tok7 mixed (by simp) fun C hC=>?_;refine hC.drawn (by kernel_rfl) (by simp [contA,Kd.cells,E.cells]) ?_;refine hC.go [] 60 ?_;simp [contA,Kd.cells,E.cells];refine hC.call [] h (by simp [E.av,E.cells,Au.av,Au.cells]) ?_;refine hC.go [] 60 ?_;simp [Au.av,Au.cells,contA,Kd.cells,E.cells]
set_option maxHeartbeats 2000000 in
theorem v178 (kd:Kd)(he:Tame kd.content)(hs:kd.content.small)(hr':kd.content.right=true)(hc:kd.content.cnt≤1000000000):Fun Tryz.prog tab10 178 [.ptr (.arg 0) 5,.fn (.func 216) [] [.ptr (.arg 1) 0]] [some (.box 198 (contA kd 0 0 no3)),some (.box 184 [.ptr (.arg 0) 0])] (.tup []) [some (.box 198 (contA kd 1 0 kd.content.dfa.cells)),some (.box 184 [.ptr (.arg 0) 0])]:=by
 refine ⟨⟨_,Tryz.func178,by kernel_rfl,rfl⟩,fun w0 F0 hd0 cargs hg hl hlen hr=>?_⟩;have hlk:=lkH_two (.box 198 (contA kd 0 0 no3)) (.box 184 [.ptr (.arg 0) 0]);have hb0:=hl.holds (.arg 0);have hb1:=hl.holds (.arg 1);rw [hlk] at hb0 hb1;simp only [if_true,reduceCtorEq,if_false] at hb0 hb1
 match cargs,hlen with
 |[c0,c1],_=>
  have r0:=hr 0 _ c0 rfl rfl;have r1:=hr 1 _ c1 rfl rfl;obtain ⟨k,arr,k1,k2,k3,k4,k5⟩:=hb0;have hb1':∃m arr1,hd0 (.arg 1) = .box m∧w0.heap[m]?=some (.cells arr1 184 (0,0)):=by
   simp at hb1;obtain ⟨m,arr1,m1,m2,_⟩:=hb1;exact ⟨m,arr1,m1,m2⟩
  obtain ⟨m,arr1,m1,m2⟩:=hb1';have e0:c0 = .pointer (some ⟨k,5,none⟩):=by cases r0 with|ptr _ _ _ _ h=>exact h k k1
  subst e0;cases r1 with
  |fn _ _ _ va vb ha hb h h'=>
   match va,ha,vb,hb with
   |[],_,[u],_=>
    have eu:u = .pointer (some ⟨m,0,none⟩):=by
     have:=h' 0 _ u rfl rfl;cases this with|ptr _ _ _ _ h=>exact h m m1
    subst eu;have hsz9:arr.size=11:=(by rw [k3];rfl);have a0:arr[5]?=some (.int .u32 0):=by
     have:arr[5]?=some arr[5]:=(by simp [hsz9]);rw [this,bool_of (k4 5 _ _ rfl this)]
    have a1:arr[6]?=some (.int .i32 0):=by
     have:arr[6]?=some arr[6]:=(by simp [hsz9]);rw [this,bool_of (k4 6 _ _ rfl this)]
    have hcell:∀(w:World) (cs:Array Value) (j:Nat),w.heap[k]?=some (.cells cs 198 (0,0))→w.cell? ⟨k,j,none⟩=cs[j]?:=fun w cs j hw=>by simp [World.cell?,hw]
    have hfz:∀(w:World) (cs:Array Value) (j:Nat),w.heap[k]?=some (.cells cs 198 (0,0))→w.frozen? ⟨k,j,none⟩=false:=fun w cs j hw=>frozen_of_row w k j cs 198 hw;obtain ⟨l1,o1,s1⟩:=lies_set (H':=keyed 0 [some (.box 198 (contA kd 0 1 no3)),some (.box 184 [.ptr (.arg 0) 0])]) hl (r:=.arg 0) (k:=k) (ty:=198) (j:=6) (cs:=contA kd 0 0 no3) (c:=.pv (.val (.int .i32 1))) (v:=.int .i32 1) (by rw [hlk];simp) k1 (by simp [contA,Kd.cells,E.cells]) (fun _=>rep_val rfl) rfl (fun s=>by rw [lkH_two,hlk];split<;>rfl);obtain ⟨w1,hw1⟩:∃w1,w0.setCell ⟨k,6,none⟩ (.int .i32 1)=w1:=⟨_,rfl⟩;rw [hw1] at l1 o1 s1;have hkF:∀i,F0 i→i≠k:=fun i hi e=>(hl.mine (.arg 0) k (by rw [k1];exact rfl)).1 (e ▸ hi);have hcall:=(v216 kd he hs hr' hc).calls w1 F0 hd0 [.pointer (some ⟨m,0,none⟩)] (tab10.mono hg (fun i hi=>o1 i (hkF i hi)) fun _ h=>h) l1 rfl (fun j x c hx hc=>by
     match j,hx,hc with
     |0,hx,hc=>
      simp at hx hc;subst hx hc;exact .ptr _ _ _ rfl fun q hq=>by rw [m1] at hq;cases hq;rfl)
    have hw1os:w1.os=w0.os∧w1.tape=w0.tape∧w1.output=w0.output:=(by rw [←hw1];exact ⟨rfl,rfl,rfl⟩);have hleft1:∀w F hd,Go.Abs.Left w1 F0 hd0 w F hd→Go.Abs.Left w0 F0 hd0 w F hd:=fun w F hd h=>by
     refine ⟨fun r i hi=>by rw [←s1];exact h.mine r i hi,fun i hi=>by rw [←s1];exact h.fin i hi,h.more,h.kept,h.os.trans hw1os.1,h.tape.trans hw1os.2.1,h.output.trans hw1os.2.2,by rw [←s1];exact h.size,fun i hi hn=>?_⟩;rw [h.old i (by rw [s1];exact hi) hn];exact o1 i fun e=>hn ⟨.arg 0,by rw [e,k1];exact rfl⟩
    have hfin:∀w F hd,Lies w F hd (keyed 0 [some (.box 198 (contA kd 0 1 kd.content.dfa.cells)),some (.box 184 [.ptr (.arg 0) 0])])→Go.Abs.Left w1 F0 hd0 w F hd→hd (.arg 0) = .box k∧∃cs,w.heap[k]?=some (.cells cs 198 (0,0))∧cs[5]?=some (.int .u32 0)∧cs[6]?=some (.int .i32 1):=fun w F hd hL hLeft=>by
     have hb:=hL.holds (.arg 0);rw [lkH_two] at hb;simp only [if_true] at hb;obtain ⟨k',cs,p1,p2,p3,p4,p5⟩:=hb;have hkk:hd (.arg 0) = .box k:=by
      rcases hLeft.kept 0 with g|g
      ·rw [g,k1]
      ·rw [g] at p1;cases p1
     rw [hkk] at p1;cases p1;have hs9:cs.size=11:=(by rw [p3];rfl);refine ⟨hkk,cs,p2,?_,?_⟩
     ·have:cs[5]?=some cs[5]:=(by simp [hs9]);rw [this,bool_of (p4 5 _ _ rfl this)]
     ·have:cs[6]?=some cs[6]:=(by simp [hs9]);rw [this,bool_of (p4 6 _ _ rfl this)]
    refine (do_ofC k ⟨m,0,none⟩ w0 ?_ ?_ ?_ ?_ (fun w=>∃F hd,Lies w F hd (keyed 0 [some (.box 198 (contA kd 0 1 kd.content.dfa.cells)),some (.box 184 [.ptr (.arg 0) 0])])∧Go.Abs.Left w1 F0 hd0 w F hd) ?_ ?_).mono ?_
    ·rw [hcell w0 arr 5 k2,a0]
    ·rw [hcell w0 arr 6 k2,a1]
    ·exact hfz w0 arr 5 k2
    ·exact hfz w0 arr 6 k2
    ·rw [hw1];refine hcall.mono ?_
     rintro e' w' ⟨cv,F,hd,rfl,hcv,hL,hLeft⟩
     refine ⟨?_,F,hd,hL,hLeft⟩;cases hcv with
     |tup _ cs hl' _=>
      match cs,hl' with
      |[],_=>rfl
    ·rintro w' ⟨F,hd,hL,hLeft⟩
     obtain ⟨_,cs,p1,p2,p3⟩:=hfin w' F hd hL hLeft;exact ⟨by rw [hcell w' cs 5 p1,p2],by rw [hcell w' cs 6 p1,p3],hfz w' cs 5 p1,hfz w' cs 6 p1⟩
    ·rintro e' w'' ⟨rfl,w',⟨F,hd,hL,hLeft⟩,rfl⟩
     obtain ⟨hkk,cs,p1,p2,p3⟩:=hfin w' F hd hL hLeft;have hLd:Lies w'.drew F hd (keyed 0 [some (.box 198 (contA kd 0 1 kd.content.dfa.cells)),some (.box 184 [.ptr (.arg 0) 0])]):=⟨hL.fin,hL.sep,hL.mine,fun s=>(hL.holds s).mono (fun _ _=>rfl) (fun _ h=>h) rfl (fun _ _=>rfl) fun _ _ _ _=>.inl rfl⟩;have hLeftd:Go.Abs.Left w0 F0 hd0 w'.drew F hd:=by
      have:=hleft1 w' F hd hLeft;exact ⟨this.mine,this.fin,this.more,this.kept,this.os,this.tape,this.output,this.size,this.old⟩
     obtain ⟨l2,o2,s2⟩:=lies_set (H':=keyed 0 [some (.box 198 (contA kd 1 1 kd.content.dfa.cells)),some (.box 184 [.ptr (.arg 0) 0])]) hLd (r:=.arg 0) (k:=k) (ty:=198) (j:=5) (cs:=contA kd 0 1 kd.content.dfa.cells) (c:=.pv (.val (.int .u32 1))) (v:=.int .u32 1) (by rw [lkH_two];simp) hkk (by simp [contA,Kd.cells,E.cells]) (fun _=>rep_val rfl) rfl (fun s=>by rw [lkH_two,lkH_two];split<;>rfl);have hLeft2:=left_set hLeftd hkk o2 s2 rfl rfl rfl;obtain ⟨l3,o3,s3⟩:=lies_set (H':=keyed 0 [some (.box 198 (contA kd 1 0 kd.content.dfa.cells)),some (.box 184 [.ptr (.arg 0) 0])]) l2 (r:=.arg 0) (k:=k) (ty:=198) (j:=6) (cs:=contA kd 1 1 kd.content.dfa.cells) (c:=.pv (.val (.int .i32 0))) (v:=.int .i32 0) (by rw [lkH_two];simp) hkk (by simp [contA,Kd.cells,E.cells]) (fun _=>rep_val rfl) rfl (fun s=>by rw [lkH_two,lkH_two];split<;>rfl);have hLeft3:=left_set hLeft2 hkk o3 s3 rfl rfl rfl;exact ⟨_,F,hd,rfl,.tup [] [] rfl (fun j c v h1 h2=>by simp at h1),l3,hLeft3⟩
set_option maxRecDepth 100000 in
theorem done_ofC (b:Nat)(pl:Addr)(w:World)(h0:w.cell? ⟨b,5,none⟩=some (.int .u32 1)) :
 Calls Tryz.prog 178 #[.pointer (some ⟨b,5,none⟩),.func (.func 216) #[] #[.pointer (some pl)]] w fun e w'=>e = .returned (.tuple #[])∧w'=w:=by
 have hl:=run_call_load (P:=Tryz.prog) Tryz.func262 (by kernel_rfl) (by kernel_rfl) (by kernel_rfl) .u32 (by kernel_rfl) h0;have hnot:∀(x:Bool) (w:World),(Op.unary .not (.bool x)).run Tryz.prog w = .ok (.bool (!x)) w:=fun _ _=>rfl
 go_enter Tryz.func178,Tryz.ntmps178
 go_wp2_with (first|(go_at_call 227;go_in))
 go_end0
 exact ⟨rfl,rfl⟩
theorem v178d (kd:Kd)(d:List AV)(Gl:Granted):Fun Tryz.prog Gl 178 [.ptr (.arg 0) 5,.fn (.func 216) [] [.ptr (.arg 1) 0]] [some (.box 198 (contA kd 1 0 d)),some (.box 184 [.ptr (.arg 0) 0])] (.tup []) [some (.box 198 (contA kd 1 0 d)),some (.box 184 [.ptr (.arg 0) 0])]:=by
 refine ⟨⟨_,Tryz.func178,by kernel_rfl,rfl⟩,fun w0 F0 hd0 cargs hg hl hlen hr=>?_⟩;have hlk:=lkH_two (.box 198 (contA kd 1 0 d)) (.box 184 [.ptr (.arg 0) 0]);have hb0:=hl.holds (.arg 0);have hb1:=hl.holds (.arg 1);rw [hlk] at hb0 hb1;simp only [if_true,reduceCtorEq,if_false] at hb0 hb1
 match cargs,hlen with
 |[c0,c1],_=>
  have r0:=hr 0 _ c0 rfl rfl;have r1:=hr 1 _ c1 rfl rfl;obtain ⟨k,arr,k1,k2,k3,k4,k5⟩:=hb0;have hb1':∃m arr1,hd0 (.arg 1) = .box m∧w0.heap[m]?=some (.cells arr1 184 (0,0)):=by
   simp at hb1;obtain ⟨m,arr1,m1,m2,_⟩:=hb1;exact ⟨m,arr1,m1,m2⟩
  obtain ⟨m,arr1,m1,m2⟩:=hb1';have e0:c0 = .pointer (some ⟨k,5,none⟩):=by cases r0 with|ptr _ _ _ _ h=>exact h k k1
  subst e0;cases r1 with
  |fn _ _ _ va vb ha hb h h'=>
   match va,ha,vb,hb with
   |[],_,[u],_=>
    have eu:u = .pointer (some ⟨m,0,none⟩):=by
     have:=h' 0 _ u rfl rfl;cases this with|ptr _ _ _ _ h=>exact h m m1
    subst eu;have hsz:5<arr.size:=(by rw [k3];simp [contA,Kd.cells,E.cells]);have a0:arr[5]?=some (.int .u32 1):=by
     have:arr[5]?=some arr[5]:=(by simp [hsz]);rw [this,bool_of (k4 5 _ _ rfl this)]
    refine (done_ofC k ⟨m,0,none⟩ w0 (by simp [World.cell?,k2,a0])).mono ?_
    rintro e w ⟨rfl,rfl⟩
    exact ⟨_,F0,hd0,rfl,.tup [] [] rfl (fun j c v h1 h2=>by simp at h1),hl,⟨fun r k h=>.inr ⟨r,h⟩,fun k h=>.inl h,fun k h=>h,fun i=>.inl rfl,rfl,rfl,rfl,Nat.le_refl _,fun _ _ _=>rfl⟩⟩
theorem v168a (kd:Kd)(he:Tame kd.content)(hs:kd.content.small)(hr:kd.content.right=true)(hc:kd.content.cnt≤1000000000):Fun Tryz.prog tab10 168 [.ptr (.arg 0) 0] [some (.box 198 (contA kd 0 0 no3))] kd.content.dfa.av [some (.box 198 (contA kd 1 0 kd.content.dfa.cells))]:=by
 refine fun_of (T:=T7) (n:=12) (rs:=[.cell 2 137]) Tryz.func168 (by kernel_rfl) rfl rfl rfl tok7 mixed (by simp) fun C hC=>?_;refine hC.go [] 60 ?_;simp [contA,Kd.cells,E.cells];refine hC.call [.arg 0,.loc 1] (v178 kd he hs hr hc) (by simp [contA,Kd.cells,E.cells,Au.cells]) ?_;refine hC.go [] 60 ?_;simp [contA,Kd.cells,E.cells,Au.av,Au.cells]
theorem v168b (kd:Kd)(Gl:Granted):Fun Tryz.prog Gl 168 [.ptr (.arg 0) 0] [some (.box 198 (contA kd 1 0 kd.content.dfa.cells))] kd.content.dfa.av [some (.box 198 (contA kd 1 0 kd.content.dfa.cells))]:=by
 refine fun_of (T:=T7) (n:=12) (rs:=[.cell 2 137]) Tryz.func168 (by kernel_rfl) rfl rfl rfl tok7 mixed (by simp) fun C hC=>?_;refine hC.go [] 60 ?_;simp [contA,Kd.cells,E.cells,Au.cells];refine hC.call [.arg 0,.loc 1] (v178d kd kd.content.dfa.cells Gl) (by simp [contA,Kd.cells,E.cells,Au.cells]) ?_;refine hC.go [] 60 ?_;simp [contA,Kd.cells,E.cells,Au.av,Au.cells]
abbrev fams (l:List (Nat × Kd)):Blk:=.fam 198 (l.map fun x=>(x.1,mayC x.2))
theorem v168 (l:List (Nat × Kd))(hn:(l.map (·.1)).Nodup)(k:Nat)(kd:Kd)(hm:(k,kd)∈l)(he:Tame kd.content)(hs:kd.content.small)(hr:kd.content.right=true)(hc:kd.content.cnt≤1000000000) :
 Fun Tryz.prog tab10 168 [atP k 0] [some (fams l)] kd.content.dfa.av [some (fams l)]:=by
 refine fun_fam (p:=mayC kd) (args:=[]) rfl (by simp) (List.mem_map.2 ⟨_,hm,rfl⟩) (by rw [List.map_map];exact hn) ⟨_,.inl rfl⟩ fun cs hcs=>?_;refine ⟨contC kd 1 0 kd.content.dfa.pvs,.inr rfl,?_⟩;rcases hcs with rfl|rfl
 ·rw [cont_map,cont_map];exact v168a kd he hs hr hc
 ·rw [cont_map];exact v168b kd tab10
def entsJ (l:List (Nat × Kd)):Ents:=l.map fun x=>(.string x.2.name,atP x.1 0)
theorem fam_snoc (l:List (Nat × Kd))(k:Nat)(kd:Kd):Blk.fam 198 ((l.map fun x=>(x.1,mayC x.2))++[(k,mayC kd)])=fams (l++[(k,kd)]):=by simp
theorem ents_snoc (l:List (Nat × Kd))(k:Nat)(kd:Kd):entsJ l++[(.string kd.name,atP k 0)]=entsJ (l++[(k,kd)]):=by simp [entsJ]
abbrev Fams (ks:List Kd):Type:={l:List (Nat × Kd) // l.map (·.2)=ks∧(l.map (·.1)).Nodup}
def fam0 (ks:List Kd):Fams ks:=⟨(List.range ks.length).zip ks,by
 rw [List.map_snd_zip (by simp)],by rw [List.map_fst_zip (by simp)];exact List.nodup_range⟩
set_option maxRecDepth 20000 in
theorem v50 (Gl:Granted)(s:Sc)(hn:(s.kinds.map Kd.name).Nodup)(hk:∀k∈s.kinds,k.name.size≤M47) :
 FunE Tryz.prog Gl 50 (ι:=Fams s.kinds) [s.av] [] (fun _=>.ptr (.out 0) 0) [] (fun z=>[.box 183 [.hmap (.out 1),.pv (strs s.marks)],.gen (mapG Tryz.prog 9 (entsJ z.1)),fams z.1]):=by
 refine funE_of (T:=T7) (n:=29) (rs:=[.tmp 2]) Tryz.func50 (by kernel_rfl) rfl rfl rfl tok7 mixed (by simp) fun C hC=>?_;have h0:=hC (fam0 s.kinds);refine h0.go [] 60 ?_;simp [Sc.av,Sc.cells];refine h0.mapMake 9 rfl rfl (by simp) ?_;refine h0.go [] 60 ?_;simp;refine go_fam (.can 2) 198 (by simp) (by simp) ?_;refine go_len 12 5 (s.kinds.map Kd.pv) (by simp) fun hlen=>?_;rw [List.length_map] at hlen;refine go_loop (ι:={l:List (Nat × Kd) // l.map (·.2)=s.kinds.take l.length∧(l.map (·.1)).Nodup∧l.length≤s.kinds.length}) (fun x=>⟨[(3,.ptr (.loc 10) 0),(12,.pv (kds s.kinds)),(13,vI s.kinds.length),(14,vI x.1.length)],
  [(.loc 6,some (.gen (mapG Tryz.prog 9 (entsJ x.1)))),(.loc 10,some (.box 183 [.hmap (.loc 6),.pv (strs s.marks)])),(.can 2,some (fams x.1))]⟩)
  (fun x=>s.kinds.length-x.1.length) ⟨[],by simp⟩ [] (by simp [entsJ]) fun x ih=>?_
 obtain ⟨l,hl,hnd,hle⟩:=x;simp only at hl hnd hle ih;refine h0.til [1007] [] 60 ?_;by_cases hlt:l.length<s.kinds.length
 ·have hw1:=wr64 ((l.length:Int)+1) (by omega);obtain ⟨kd,hkd⟩:∃kd,s.kinds[l.length]=kd:=⟨_,rfl⟩;have hkm:kd∈s.kinds:=by rw [←hkd];simp
  simp [hlt,hkd,Kd.pv,E.pv_eq];refine h0.drawn (by kernel_rfl) (by simp [Kd.pv,E.pv_eq]) ?_;refine h0.go [] 60 ?_;simp [Kd.pv,E.pv_eq];refine h0.mapPutP (l:=entsJ l) (ty:=198) (cs:=contA kd 0 0 no3) Tryz.underlying181 (Maps.string_keyed Tryz.underlying9) (.loc 6) (.loc 26) (.inl rfl) (key_one _) (key_sign _ (by have:=hk kd hkm;simp only [M47] at this;simp only [maxLen];omega)) (fun p hp=>?_) (by simp) (by simp [contA,Kd.cells,E.cells]) ?_
  ·obtain ⟨x,hx,rfl⟩:=List.mem_map.1 hp;have hxm:x.2∈s.kinds.take l.length:=(by rw [←hl];exact List.mem_map.2 ⟨x,hx,rfl⟩);intro e;have e:x.2.name=kd.name:=(by simpa using e);obtain ⟨j,hj,hje⟩:=List.getElem_of_mem hxm;rw [List.length_take] at hj;rw [List.getElem_take] at hje;have h1:(s.kinds.map Kd.name)[j]?=some kd.name:=by rw [List.getElem?_map,List.getElem?_eq_getElem (by omega),hje];simp [e]
   have h2:(s.kinds.map Kd.name)[l.length]?=some kd.name:=(by rw [List.getElem?_map,List.getElem?_eq_getElem hlt,hkd];rfl);have:=nodup_idx hn h1 h2;omega
  refine h0.til [6] [] 60 ?_;simp;refine go_inP (ty:=198) (l:=l.map fun x=>(x.1,mayC x.2)) (Q:=fun z=>mapG Tryz.prog 9 (entsJ l++[(.string kd.name,atP z 0)])) (.can 2) (.loc 6) (.loc 26) (cs:=contC kd 0 0 nil3) (mayC kd) (by simp) (by simp) (by simp [cont_map,contA,Kd.cells,E.cells]) (.inl rfl) (by simp) (by simp) (by simp) (by simp) fun k hk'=>?_;simp only [fam_snoc,ents_snoc];refine h0.go [] 60 ?_;simp;have h1:(l++[(k,kd)]).map (·.2)=s.kinds.take (l++[(k,kd)]).length:=by
   rw [List.length_append,List.length_singleton,List.take_add_one,List.getElem?_eq_getElem hlt,hkd];simp [hl]
  have h2:((l++[(k,kd)]).map (·.1)).Nodup:=by
   rw [List.map_append];refine List.nodup_append.2 ⟨hnd,by simp,fun a ha b hb=>?_⟩;simp at hb;subst hb;intro e;subst e;exact hk' (by rw [List.map_map];exact ha)
  exact go_to [] (ih ⟨l++[(k,kd)],h1,h2,by simp;omega⟩ (by simp;omega)) (by simp [hw1])
 ·have hL:l.length=s.kinds.length:=by omega
  rw [hL,List.take_length] at hl;simp [hlt];refine go_to [(.out 0,.nm (.loc 10)),(.out 1,.nm (.loc 6)),(.out 2,.nm (.can 2))] (M:=⟨[(3,.ptr (.out 0) 0)],[(.out 0,some (.box 183 [.hmap (.out 1),.pv (strs s.marks)])),(.out 1,some (.gen (mapG Tryz.prog 9 (entsJ l)))),(.out 2,some (fams l))]⟩) ?_ (by simp);refine (hC ⟨l,hl,hnd⟩).go [] 60 ?_;simp
def attrsFit:List (ByteArray × ByteArray)→List Dc→Bool
 |[],[]=>true
 |a::l,d::m=>decide (a.1=d.name)&&d.takes a.2&&attrsFit l m
 |_,_=>false
theorem attrsFit_len:∀ {l:List (ByteArray × ByteArray)} {m:List Dc},attrsFit l m=true→l.length=m.length
 |[],[],_=>rfl
 |a::l,d::m,h=>by
  simp only [attrsFit,Bool.and_eq_true] at h;simp [attrsFit_len h.2]
 |[],_::_,h=>by simp [attrsFit] at h
 |_::_,[],h=>by simp [attrsFit] at h
set_option maxRecDepth 20000 in
theorem v47 (Gl:Granted)(l:List N)(hb:l.length≤1000000):Fun Tryz.prog Gl 47 [.pv (nodes l)] [] (.pv (strs (l.map N.kind))) []:=by
 refine fun_of (T:=T7) (n:=19) (rs:=[.tmp 2]) Tryz.func47 (by kernel_rfl) rfl rfl rfl tok7 mixed (by simp) fun C hC=>?_;refine hC.go [] 60 ?_;simp;refine go_len 0 5 (l.map N.pv) (by simp) fun hlen=>?_;rw [List.length_map] at hlen;refine go_loop (ι:={x:Nat × List ByteArray // x.1≤l.length∧x.2=(l.take x.1).map N.kind}) (fun x=>⟨[(3,.own (.can 0)),(6,.pv (nodes l)),(7,vI l.length),(8,vI x.1.1)],[(.can 0,some (.row 9 1 (x.1.2.map fun s=>[.val (.string s)])))]⟩)
  (fun x=>l.length-x.1.1) ⟨(0,[]),by simp⟩ [(.can 0,.nil)] (by simp) fun x ih=>?_
 obtain ⟨⟨i,out⟩,hi,ho⟩:=x;simp only at hi ih ho;refine hC.go [] 60 ?_;by_cases hlt:i<l.length
 ·have hw:=wr64 ((i:Int)+1) (by omega);have hol:out.length=i:=by rw [ho];simp;omega
  simp [hlt,N.pv_eq];refine ⟨by omega,?_⟩;have ht:out++[l[i].kind]=(l.take (i+1)).map N.kind:=by rw [ho,List.take_add_one,List.getElem?_eq_getElem hlt,List.map_append];rfl
  exact go_to [(.can 0,.nm (.loc 16))] (ih ⟨(i+1,out++[l[i].kind]),hlt,ht⟩ (by simp;omega)) (by simp [hw])
 ·rw [List.take_of_length_le (by omega)] at ho;simp [hlt,ho]
set_option maxRecDepth 20000 in
theorem v165 (a b:ByteArray)(d:Dc)(hb:b.size≤9223372036854775807):Fun Tryz.prog tabs 165 [.agg [vS a,vS b],d.av] [] (vB (decide (a=d.name)&&d.takes b)) []:=by
 refine fun_of (T:=T7) (n:=16) (rs:=[.tmp 4]) Tryz.func165 (by kernel_rfl) rfl rfl rfl tok7 mixed (by simp) fun C hC=>?_;by_cases h:a=d.name
 ·refine hC.go [] 60 ?_;simp [h];refine hC.call [] (g27 d b hb) (by simp) ?_;refine hC.go [] 60 ?_;simp [h]
 ·refine hC.go [] 60 ?_;simp [h]
theorem Dc.pv_eq (d:Dc):d.pv = [.val (.string d.name),.ro 1 (d.vals.map fun s=>[.val (.string s)])]:=rfl
set_option maxRecDepth 20000 in
theorem v166 (l:List (ByteArray × ByteArray))(m:List Dc)(hl:∀a∈l,a.2.size≤9223372036854775807):Fun Tryz.prog tabs 166 [.pv (pairs l),.pv (dcs m),.fn (.func 165) [] []] [] (vB (attrsFit l m)) []:=by
 refine fun_of (T:=T7) (n:=32) (rs:=[.tmp 6]) Tryz.func166 (by kernel_rfl) rfl rfl rfl tok7 mixed (by simp) fun C hC=>?_;by_cases h3:(l.length:Int)=m.length
 ·have h3':l.length=m.length:=by omega
  refine hC.go [] 60 ?_;simp [h3];refine go_len 0 2 (l.map fun p=>[.val (.string p.1),.val (.string p.2)]) (by simp) fun hk=>?_;rw [List.length_map] at hk;refine go_loop (ι:={i:Nat // i≤l.length∧attrsFit l m=attrsFit (l.drop i) (m.drop i)}) (fun x=>⟨[(15,.pv (pairs l)),(1,.pv (dcs m)),(2,.fn (.func 165) [] []),(16,vI m.length),(17,vI x.1)],[]⟩)
   (fun x=>l.length-x.1) ⟨0,by simp⟩ [] (by simp) fun x ih=>?_
  obtain ⟨i,hi,hn⟩:=x;simp only at hi hn ih;refine hC.go [] 60 ?_;by_cases hlt:i<m.length
  ·have hlt':i<l.length:=(by omega);rw [List.drop_eq_getElem_cons hlt',List.drop_eq_getElem_cons hlt] at hn;simp only [attrsFit] at hn;have hw:=wr64 ((i:Int)+1) (by omega);simp [hlt,hlt'];refine hC.call [] (v165 l[i].1 l[i].2 m[i] (hl _ (by simp))) (by simp) ?_;refine hC.go [] 60 ?_;cases he:(decide (l[i].1=m[i].name)&&m[i].takes l[i].2) with
   |true=>
    rw [he,Bool.true_and] at hn;simp;exact go_to [] (ih ⟨i+1,hlt',hn⟩ (by simp;omega)) (by simp [hw])
   |false=>
    rw [he,Bool.false_and] at hn;simp [hn]
  ·have:i=l.length:=(by omega);subst this;rw [List.drop_eq_nil_of_le (Nat.le_refl _),List.drop_eq_nil_of_le (by omega)] at hn;simp [hlt,hn,attrsFit]
 ·have hf:attrsFit l m=false:=by
   cases h:attrsFit l m with
   |true=>exact absurd (attrsFit_len h) (by omega)
   |false=>rfl
  refine hC.go [] 60 ?_;simp [h3,hf]
def unmarked (s:Sc)(m:ByteArray):Bool:=!(s.marks.any fun x=>decide (m=x))
abbrev judged (l:List (Nat × Kd))(s:Sc)(i:Nat):List (Option Blk):=[some (.box 183 [.hmap (.arg i),.pv (strs s.marks)]),some (.gen (mapG Tryz.prog 9 (entsJ l)))]
set_option maxRecDepth 20000 in
theorem v164 (Gl:Granted)(s:Sc)(l:List (Nat × Kd))(m:ByteArray):Fun Tryz.prog Gl 164 [vS m,.ptr (.arg 0) 0] (some (.box 116 [.ptr (.arg 1) 0])::judged l s 2) (vB (unmarked s m)) (some (.box 116 [.ptr (.arg 1) 0])::judged l s 2):=by
 refine fun_of (T:=T7) (n:=11) (rs:=[.tmp 3]) Tryz.func164 (by kernel_rfl) rfl rfl rfl tok7 mixed (by simp) fun C hC=>?_;refine hC.go [] 60 ?_;simp;refine hC.call [] (g62 Gl s.marks m) (by simp) ?_;refine hC.go [] 60 ?_;simp [unmarked]
set_option maxRecDepth 20000 in
theorem v170 (Gl:Granted)(s:Sc)(l:List (Nat × Kd))(w:List ByteArray):Fun Tryz.prog Gl 170 [.pv (strs w),.fn (.func 164) [] [.ptr (.arg 0) 0]] (some (.box 116 [.ptr (.arg 1) 0])::judged l s 2) (vI (firstAt (unmarked s) w 0)) (some (.box 116 [.ptr (.arg 1) 0])::judged l s 2):=by
 refine fun_of (T:=T7) (n:=19) (rs:=[.tmp 4]) Tryz.func170 (by kernel_rfl) rfl rfl rfl tok7 mixed (by simp) fun C hC=>?_;refine hC.go [] 60 ?_;simp;refine go_len 0 1 (w.map fun s=>[.val (.string s)]) (by simp) fun hk=>?_;rw [List.length_map] at hk;refine go_loop (ι:={i:Nat // i≤w.length∧firstAt (unmarked s) w 0=firstAt (unmarked s) (w.drop i) i}) (fun x=>⟨[(0,.pv (strs w)),(1,.fn (.func 164) [] [.ptr (.arg 0) 0]),(7,vI w.length),(8,vI x.1)],
  [(.arg 0,some (.box 116 [.ptr (.arg 1) 0])),(.arg 1,some (.box 183 [.hmap (.arg 2),.pv (strs s.marks)])),(.arg 2,some (.gen (mapG Tryz.prog 9 (entsJ l))))]⟩) (fun x=>w.length-x.1) ⟨0,by simp⟩ [] (by simp) fun x ih=>?_
 obtain ⟨i,hi,hn⟩:=x;simp only at hi hn ih;refine hC.go [] 60 ?_;by_cases hlt:i<w.length
 ·rw [List.drop_eq_getElem_cons hlt] at hn;simp only [firstAt] at hn;simp [hlt];refine hC.call [.arg 0,.arg 1,.arg 2] (v164 Gl s l w[i]) (by simp) ?_;refine hC.go [] 60 ?_;simp;cases hq:unmarked s w[i] with
  |true=>
   simp [hn,hq]
  |false=>
   simp;have hw:=wr64 ((i:Int)+1) (by omega);exact go_to [] (ih ⟨i+1,hlt,by simpa [hq] using hn⟩ (by simp;omega)) (by simp [hw])
 ·simp [hlt];rw [hn,List.drop_eq_nil_of_le (by omega)];simp [firstAt]
theorem v112 (Gl:Granted)(s:Sc)(l:List (Nat × Kd))(w:List ByteArray):Fun Tryz.prog Gl 112 [.pv (strs w),.fn (.func 164) [] [.ptr (.arg 0) 0]] (some (.box 116 [.ptr (.arg 1) 0])::judged l s 2) (vB (w.any (unmarked s))) (some (.box 116 [.ptr (.arg 1) 0])::judged l s 2):=by
 refine fun_of (T:=T7) (n:=9) (rs:=[.tmp 4]) Tryz.func112 (by kernel_rfl) rfl rfl rfl tok7 mixed (by simp) fun C hC=>?_;refine hC.go [] 60 ?_;simp;refine hC.call [.arg 0,.arg 1,.arg 2] (v170 Gl s l w) (by simp) ?_;refine hC.go [] 60 ?_;simp [firstAt_any]
noncomputable def hasB (e:E)(w:Row):Bool:=e.dfa.acc (e.dfa.run 0 w)
noncomputable def N.fitsV (s:Sc)(n:N):Bool:=if n.kind=textK then !(n.marks.any (unmarked s)) else match s.kinds.find? fun k=>decide (k.name=n.kind) with
 |none=>false
 |some k=>attrsFit n.attrs k.attrs&&hasB k.content (n.kids.map N.kind)
structure Kd.judged (k:Kd):Prop where
 tame:Tame k.content
 small:k.content.small
 right:k.content.right=true
 cnt:k.content.cnt≤1000000000
 name:k.name.size≤M47
structure N.mild (n:N):Prop where
 kind:n.kind.size≤M47
 attrs:∀a∈n.attrs,a.2.size≤9223372036854775807
 kids:n.kids.length≤1000000
set_option maxRecDepth 20000 in
theorem v106 (s:Sc)(hs:∀k∈s.kinds,k.judged)(hn:(s.kinds.map Kd.name).Nodup)(z:Fams s.kinds)(n:N)(hm:n.mild) :
 Fun Tryz.prog tab2 106 [.ptr (.arg 0) 0,n.av] (judged z.1 s 1++[some (fams z.1)]) (vB (n.fitsV s)) (judged z.1 s 1++[some (fams z.1)]):=by
 obtain ⟨l,hl,hnd⟩:=z;have hks:n.kind.size≤maxLen:=by have:=hm.kind;simp only [M47] at this;simp only [maxLen];omega
 by_cases ht:n.kind=textK
 ·have hv:n.fitsV s = !(n.marks.any (unmarked s)):=by rw [N.fitsV,if_pos ht]
  rw [hv];simp only [textK] at ht;refine fun_of (T:=T7) (n:=45) (rs:=[.tmp 4]) Tryz.func106 (by kernel_rfl) rfl rfl rfl tok7 mixed (by simp) fun C hC=>?_;refine hC.go [] 60 ?_;simp [N.av,N.cells,ht];refine hC.call [.loc 2,.arg 0,.arg 1] (v112 tab2 s l n.marks) (by simp) ?_;refine hC.go [] 60 ?_;simp
 ·cases hf:s.kinds.find? fun k=>decide (k.name=n.kind) with
  |none=>
   have hv:n.fitsV s=false:=(by rw [N.fitsV,if_neg ht,hf]);rw [hv];simp only [textK] at ht;refine fun_of (T:=T7) (n:=45) (rs:=[.tmp 4]) Tryz.func106 (by kernel_rfl) rfl rfl rfl tok7 mixed (by simp) fun C hC=>?_;refine hC.go [] 60 ?_;simp [N.av,N.cells,ht];refine hC.drawn (by kernel_rfl) (by simp [N.av,N.cells]) ?_;refine hC.go [] 60 ?_;simp [N.av,N.cells];refine hC.mapGet (l:=entsJ l) Tryz.underlying181 (Maps.string_keyed Tryz.underlying9) (.arg 1) (zero:=.pv (.val (.pointer none))) ⟨_,Tryz.zeroValue184,fun _ _ _=>rep_val rfl⟩ (.tup [.pv (.val (.pointer none)),vB false]) rfl (key_one _) (key_sign _ hks) (.inl ⟨fun p hp=>?_,rfl⟩) (by simp) ?_
   ·obtain ⟨x,hx,rfl⟩:=List.mem_map.1 hp;have hxk:x.2∈s.kinds:=(by rw [←hl];exact List.mem_map.2 ⟨x,hx,rfl⟩);have:=List.find?_eq_none.1 hf x.2 hxk;intro e;exact this (by simpa using e)
   refine hC.go [] 60 ?_;simp
  |some kd=>
   have hkm:kd∈s.kinds:=List.mem_of_find?_eq_some hf;have hkn:kd.name=n.kind:=(by simpa using List.find?_some hf);have hj:=hs kd hkm;have hv:n.fitsV s=(attrsFit n.attrs kd.attrs&&hasB kd.content (n.kids.map N.kind)):=(by rw [N.fitsV,if_neg ht,hf]);obtain ⟨k,hkl⟩:∃k,(k,kd)∈l:=by
    rw [←hl] at hkm;obtain ⟨x,hx,rfl⟩:=List.mem_map.1 hkm;exact ⟨x.1,hx⟩
   simp only [textK] at ht;cases ha:attrsFit n.attrs kd.attrs with
   |true=>
    rw [ha,Bool.true_and] at hv;rw [hv];refine fun_of (T:=T7) (n:=45) (rs:=[.tmp 4]) Tryz.func106 (by kernel_rfl) rfl rfl rfl tok7 mixed (by simp) fun C hC=>?_;refine hC.go [] 60 ?_;simp [N.av,N.cells,ht];refine hC.drawn (by kernel_rfl) (by simp [N.av,N.cells]) ?_;refine hC.go [] 60 ?_;simp [N.av,N.cells];refine hC.mapGet (l:=entsJ l) Tryz.underlying181 (Maps.string_keyed Tryz.underlying9) (.arg 1) (zero:=.pv (.val (.pointer none))) ⟨_,Tryz.zeroValue184,fun _ _ _=>rep_val rfl⟩ (.tup [atP k 0,vB true]) rfl (key_one _) (key_sign _ hks) (.inr ⟨atP k 0,List.mem_map.2 ⟨(k,kd),hkl,by rw [hkn]⟩,rfl⟩) (by simp) ?_;refine hC.go [] 60 ?_;simp;refine hC.drawn (by kernel_rfl) (by simp) ?_;refine hC.go [] 60 ?_;simp;refine hC.famNil k 0 rfl (by simp) ?_;refine hC.go [] 60 ?_;simp;refine hC.famField (off:=0) (ty:=66) k 0 rfl (by simp) rfl (by simp) ?_;refine hC.go [] 60 ?_;simp;refine hC.famField (off:=4) (ty:=64) k 0 rfl (by simp) rfl (by simp) ?_;refine hC.go [] 60 ?_;simp;refine hC.famLoad (ty:=198) (l:=l.map fun x=>(x.1,mayC x.2)) (.arg 2) k 4 (p:=mayC kd) (.pv (dcs kd.attrs)) rfl rfl (List.mem_map.2 ⟨_,hkl,rfl⟩) (by rintro cs (rfl|rfl)<;>simp [cont_map,contA,Kd.cells,E.cells]) rfl (by simp) ?_;refine hC.go [] 60 ?_;simp;refine hC.call [] (upT (v166 n.attrs kd.attrs hm.attrs)) (by simp) ?_;rw [ha];refine hC.go [] 60 ?_;simp;refine hC.callX [.arg 2] (up10 (v168 l hnd k kd hkl hj.tame hj.small hj.right hj.cnt)) (by simp [callSideX,Au.av,Au.cells];decide +kernel) ?_;refine hC.go [] 60 ?_;simp [Au.av,Au.cells];refine hC.call [] (v47 tab2 n.kids hm.kids) (by simp) ?_;refine hC.go [] 60 ?_;simp;refine hC.call [] (h19 tab2 kd.content.dfa (dfa_least hj.tame.1 hj.tame.2).1.sem.row (n.kids.map N.kind)) (by simp [Au.av,Au.cells]) ?_;refine hC.go [] 60 ?_;simp [hasB]
   |false=>
    rw [ha,Bool.false_and] at hv;rw [hv];refine fun_of (T:=T7) (n:=45) (rs:=[.tmp 4]) Tryz.func106 (by kernel_rfl) rfl rfl rfl tok7 mixed (by simp) fun C hC=>?_;refine hC.go [] 60 ?_;simp [N.av,N.cells,ht];refine hC.drawn (by kernel_rfl) (by simp [N.av,N.cells]) ?_;refine hC.go [] 60 ?_;simp [N.av,N.cells];refine hC.mapGet (l:=entsJ l) Tryz.underlying181 (Maps.string_keyed Tryz.underlying9) (.arg 1) (zero:=.pv (.val (.pointer none))) ⟨_,Tryz.zeroValue184,fun _ _ _=>rep_val rfl⟩ (.tup [atP k 0,vB true]) rfl (key_one _) (key_sign _ hks) (.inr ⟨atP k 0,List.mem_map.2 ⟨(k,kd),hkl,by rw [hkn]⟩,rfl⟩) (by simp) ?_;refine hC.go [] 60 ?_;simp;refine hC.drawn (by kernel_rfl) (by simp) ?_;refine hC.go [] 60 ?_;simp;refine hC.famNil k 0 rfl (by simp) ?_;refine hC.go [] 60 ?_;simp;refine hC.famField (off:=0) (ty:=66) k 0 rfl (by simp) rfl (by simp) ?_;refine hC.go [] 60 ?_;simp;refine hC.famField (off:=4) (ty:=64) k 0 rfl (by simp) rfl (by simp) ?_;refine hC.go [] 60 ?_;simp;refine hC.famLoad (ty:=198) (l:=l.map fun x=>(x.1,mayC x.2)) (.arg 2) k 4 (p:=mayC kd) (.pv (dcs kd.attrs)) rfl rfl (List.mem_map.2 ⟨_,hkl,rfl⟩) (by rintro cs (rfl|rfl)<;>simp [cont_map,contA,Kd.cells,E.cells]) rfl (by simp) ?_;refine hC.go [] 60 ?_;simp;refine hC.call [] (upT (v166 n.attrs kd.attrs hm.attrs)) (by simp) ?_;rw [ha];refine hC.go [] 60 ?_;simp
noncomputable def N.badV (s:Sc):N→List Nat × Bool
 |.mk k t m a kids=>if !((N.mk k t m a kids).fitsV s) then ([],true) else go kids 0
where go:List N→Nat→List Nat × Bool
 |[],_=>([],false)
 |x::l,i=>if (x.badV s).2 then (i::(x.badV s).1,true) else go l (i+1)
theorem badV_eq (s:Sc)(n:N):n.badV s=if !(n.fitsV s) then ([],true) else N.badV.go s n.kids 0:=by
 obtain ⟨k,t,m,a,kids⟩:=n;simp only [N.badV,N.kids]
abbrev intsN (l:List Nat):PV:=ints (List.map (fun i:Nat=>(i:Int)) l)
def N.mildAll:N→Prop
 |.mk k t m a kids=>(N.mk k t m a kids).mild∧go kids
where go:List N→Prop
 |[]=>True
 |x::l=>x.mildAll∧go l
theorem mildAll_go {l:List N}(h:N.mildAll.go l):∀x∈l,x.mildAll:=by
 induction l with
 |nil=>intro x hx;cases hx
 |cons y l ih=>
  intro x hx;rcases List.mem_cons.1 hx with rfl|hx
  ·exact h.1
  ·exact ih h.2 x hx
theorem mildAll_eq {n:N}(h:n.mildAll):n.mild∧∀x∈n.kids,x.mildAll:=by
 obtain ⟨k,t,m,a,kids⟩:=n;simp only [N.mildAll] at h;exact ⟨h.1,mildAll_go h.2⟩
theorem badV_nil (s:Sc)(n:N)(h:(n.badV s).2=false):(n.badV s).1 = []:=by
 rw [badV_eq] at h ⊢;split at h
 ·cases h
 ·rename_i hf;rw [if_neg hf];generalize n.kids=l at h;generalize 0=i at h ⊢;induction l generalizing i with
  |nil=>rfl
  |cons x l ih=>
   simp only [N.badV.go] at h ⊢;split at h
   ·cases h
   ·rename_i hx;rw [if_neg hx];exact ih _ h
theorem wt_lt {x n:N}(h:x∈n.kids):x.wt<n.wt:=by
 rw [N.wt_eq n];have:=wt_kid h;omega
def N.high:N→Nat
 |.mk _ _ _ _ kids=>1+go kids
where go:List N→Nat
 |[]=>0
 |x::l=>max x.high (go l)
theorem high_kid {x n:N}(h:x∈n.kids):x.high<n.high:=by
 obtain ⟨k,t,m,a,l⟩:=n;simp only [N.kids] at h;simp only [N.high];have:x.high≤N.high.go l:=by
  induction l with
  |nil=>cases h
  |cons y l ih=>
   simp only [N.high.go];rcases List.mem_cons.1 h with rfl|h
   ·exact Nat.le_max_left _ _
   ·exact Nat.le_trans (ih h) (Nat.le_max_right _ _)
 omega
theorem high_wt:∀n:N,n.high≤n.wt
 |.mk k t m a l=>by
  have key:∀l:List N,(∀x∈l,x.high≤x.wt)→N.high.go l≤N.wt.go l:=by
   intro l;induction l with
   |nil=>intro _;simp [N.high.go]
   |cons x l ih=>
    intro h;have h1:=h x (by simp);have h2:=ih fun y hy=>h y (by simp [hy]);simp only [N.high.go,N.wt.go];exact Nat.max_le.2 ⟨by omega,by omega⟩
  have:=key l fun x hx=>high_wt x;rw [N.wt_eq];simp only [N.high,N.kids];omega
termination_by n=>SizeOf.sizeOf n
decreasing_by exact N.kids_lt (e:=.mk k t m a l) hx
theorem badV_len (s:Sc)(n:N):(n.badV s).1.length≤n.high:=by
 rw [badV_eq];split
 ·simp
 ·have key:∀(l:List N) (i:Nat),(∀x∈l,x∈n.kids)→(N.badV.go s l i).1.length≤n.high:=by
   intro l;induction l with
   |nil=>intro i _;simp [N.badV.go]
   |cons x l ih=>
    intro i hx;simp only [N.badV.go];split
    ·have h1:=high_kid (hx x (by simp));have h2:=badV_len s x;simp only [List.length_cons];omega
    ·exact ih _ fun y hy=>hx y (by simp [hy])
  exact key n.kids 0 fun x hx=>hx
termination_by n.wt
decreasing_by exact wt_lt (hx x (by simp))
theorem Fun.val {P:Program}{Gl:Granted}{g:FuncId}{args:List AV}{pre:List (Option Blk)}{v v':AV}{post:List (Option Blk)}(h:Fun P Gl g args pre v post)(hv:∀w F hd c,Rep w F hd v c→Rep w F hd v' c):Fun P Gl g args pre v' post:=
 ⟨h.fn,fun w F hd cargs a b c d=>(h.calls w F hd cargs a b c d).mono fun e w ⟨cv,F,hd,e1,e2,e3,e4⟩=>⟨cv,F,hd,e1,hv w F hd cv e2,e3,e4⟩⟩
theorem nil_ints (b:Bool)(w:World)(F:Nat→Prop)(hd:Nm→Hd)(c:Value)(h:Rep w F hd (.tup [.pv (.ro 0 []),vB b]) c):Rep w F hd (.tup [.pv (intsN []),vB b]) c:=by
 cases h with
 |tup _ cs hl hh=>
  refine .tup _ cs hl fun j x v h1 h2=>?_
  match j,h1 with
  |0,h1=>
   simp at h1;subst h1;have:=hh 0 _ v rfl h2;cases this with
   |pv _ _ hp=>exact .pv _ _ (repP_empty hp)
  |1,h1=>exact hh 1 x v h1 h2
set_option maxRecDepth 20000 in
theorem v51 (s:Sc)(hs:∀k∈s.kinds,k.judged)(hn:(s.kinds.map Kd.name).Nodup)(z:Fams s.kinds)(n:N)(hm:n.mildAll)(hw:n.high≤1000000) :
 Fun Tryz.prog tab2 51 [.ptr (.arg 0) 0,n.av] (judged z.1 s 1++[some (fams z.1)]) (.tup [.pv (intsN (n.badV s).1),vB (n.badV s).2]) (judged z.1 s 1++[some (fams z.1)]):=by
 obtain ⟨h1,h2⟩:=mildAll_eq hm;have hb:=badV_eq s n;cases hf:n.fitsV s with
 |false=>
  rw [hf] at hb;simp at hb;rw [hb];refine Fun.val ?_ (nil_ints true);refine fun_of (T:=T7) (n:=34) (rs:=[.tmp 4,.tmp 5]) Tryz.func51 (by kernel_rfl) rfl rfl rfl tok7 mixed (by simp) fun C hC=>?_;refine hC.go [] 60 ?_;simp [N.av,N.cells];refine hC.call [.arg 0,.arg 1,.arg 2] (v106 s hs hn z n h1) (by simp [N.av,N.cells]) ?_;rw [hf];refine hC.go [] 60 ?_;simp
 |true=>
  rw [hf] at hb;simp at hb;have hrec:∀x∈n.kids,Fun Tryz.prog tab2 51 [.ptr (.arg 0) 0,x.av] (judged z.1 s 1++[some (fams z.1)]) (.tup [.pv (intsN (x.badV s).1),vB (x.badV s).2]) (judged z.1 s 1++[some (fams z.1)]):=fun x hx=>v51 s hs hn z x (h2 x hx) (by have:=high_kid hx;omega);have hlen:∀x∈n.kids,(x.badV s).1.length≤1000000:=fun x hx=>by
   have:=badV_len s x;have:=high_kid hx;omega
  have hk:=h1.kids;cases h2b:(n.badV s).2 with
  |false=>
   have hg:(N.badV.go s n.kids 0).2=false:=(by rw [←hb];exact h2b);rw [badV_nil s n h2b];refine Fun.val ?_ (nil_ints false);refine fun_of (T:=T7) (n:=34) (rs:=[.tmp 4,.tmp 5]) Tryz.func51 (by kernel_rfl) rfl rfl rfl tok7 mixed (by simp) fun C hC=>?_;refine hC.go [] 60 ?_;simp [N.av,N.cells];refine hC.call [.arg 0,.arg 1,.arg 2] (v106 s hs hn z n h1) (by simp [N.av,N.cells]) ?_;rw [hf];refine hC.go [] 60 ?_;simp;refine go_loop (ι:={i:Nat // i≤n.kids.length∧(N.badV.go s (n.kids.drop i) i).2=false}) (fun x=>⟨[(0,.ptr (.arg 0) 0),(15,.pv (nodes n.kids)),(16,vI n.kids.length),(17,vI x.1)],
    [(.arg 0,some (.box 183 [.hmap (.arg 1),.pv (strs s.marks)])),(.arg 1,some (.gen (mapG Tryz.prog 9 (entsJ z.1)))),(.arg 2,some (fams z.1))]⟩)
    (fun x=>n.kids.length-x.1) ⟨0,by simpa using hg⟩ [] (by simp) fun x ih=>?_
   obtain ⟨i,hi,hgi⟩:=x;simp only at hi hgi ih;refine hC.go [] 60 ?_;by_cases hlt:i<n.kids.length
   ·have hw1:=wr64 ((i:Int)+1) (by omega);rw [List.drop_eq_getElem_cons hlt] at hgi;simp only [N.badV.go] at hgi;cases hx:(n.kids[i].badV s).2 with
    |true=>rw [if_pos hx] at hgi;cases hgi
    |false=>
     rw [if_neg (by simp [hx])] at hgi;simp [hlt,N.pv_eq];refine hC.call [.arg 0,.arg 1,.arg 2] (hrec n.kids[i] (by simp)) (by simp [N.av,N.cells]) ?_;rw [hx];refine hC.go [] 60 ?_;simp;exact go_to [] (ih ⟨i+1,hlt,hgi⟩ (by simp;omega)) (by simp [hw1])
   ·simp [hlt]
  |true=>
   have hg:(N.badV.go s n.kids 0).2=true:=(by rw [←hb];exact h2b);rw [show (n.badV s).1=(N.badV.go s n.kids 0).1 by rw [hb]];refine fun_of (T:=T7) (n:=34) (rs:=[.tmp 4,.tmp 5]) Tryz.func51 (by kernel_rfl) rfl rfl rfl tok7 mixed (by simp) fun C hC=>?_;refine hC.go [] 60 ?_;simp [N.av,N.cells];refine hC.call [.arg 0,.arg 1,.arg 2] (v106 s hs hn z n h1) (by simp [N.av,N.cells]) ?_;rw [hf];refine hC.go [] 60 ?_;simp;refine go_loop (ι:={i:Nat // i≤n.kids.length∧(N.badV.go s (n.kids.drop i) i).2=true∧(N.badV.go s n.kids 0).1=(N.badV.go s (n.kids.drop i) i).1}) (fun x=>⟨[(0,.ptr (.arg 0) 0),(15,.pv (nodes n.kids)),(16,vI n.kids.length),(17,vI x.1)],
    [(.arg 0,some (.box 183 [.hmap (.arg 1),.pv (strs s.marks)])),(.arg 1,some (.gen (mapG Tryz.prog 9 (entsJ z.1)))),(.arg 2,some (fams z.1))]⟩)
    (fun x=>n.kids.length-x.1) ⟨0,by simpa using hg⟩ [] (by simp) fun x ih=>?_
   obtain ⟨i,hi,hgi,hge⟩:=x;simp only at hi hgi hge ih;by_cases hlt:i<n.kids.length
   ·have hw1:=wr64 ((i:Int)+1) (by omega);rw [List.drop_eq_getElem_cons hlt] at hgi hge;simp only [N.badV.go] at hgi hge;have hl1:=hlen n.kids[i] (by simp);cases hx:(n.kids[i].badV s).2 with
    |true=>
     rw [if_pos hx] at hge;rw [hge] at hC;refine hC.go [] 60 ?_;simp [hlt,N.pv_eq];refine hC.call [.arg 0,.arg 1,.arg 2] (hrec n.kids[i] (by simp)) (by simp [N.av,N.cells]) ?_;rw [hx];refine hC.go [30] 60 ?_;simp;constructor<;>omega
    |false=>
     rw [if_neg (by simp [hx])] at hgi hge;refine hC.go [] 60 ?_;simp [hlt,N.pv_eq];refine hC.call [.arg 0,.arg 1,.arg 2] (hrec n.kids[i] (by simp)) (by simp [N.av,N.cells]) ?_;rw [hx];refine hC.go [] 60 ?_;simp;exact go_to [] (ih ⟨i+1,hlt,hgi,hge⟩ (by simp;omega)) (by simp [hw1])
   ·exfalso;rw [List.drop_eq_nil_of_le (by omega)] at hgi;cases hgi
termination_by n.wt
decreasing_by exact wt_lt hx
set_option maxRecDepth 20000 in
set_option maxHeartbeats 4000000 in
theorem v19 (s:Sc)(hs:∀k∈s.kinds,k.judged)(hn:(s.kinds.map Kd.name).Nodup)(n:N)(hm:n.mildAll)(hw:n.high≤1000000):Fun Tryz.prog tab2 19 [s.av,n.av] [] (.tup [.pv (intsN (n.badV s).1),vB (n.badV s).2]) []:=by
 refine fun_of (T:=T7) (n:=12) (rs:=[.tmp 4,.tmp 5]) Tryz.func19 (by kernel_rfl) rfl rfl rfl tok7 mixed (by simp) fun C hC=>?_;refine hC.go [] 60 ?_;simp [Sc.av,Sc.cells,N.av,N.cells];refine go_all hC.mixed ?_
 repeat' first
  |(refine ra_end (by decide +kernel) ?_;show Go C (.top _ _);refine hC.go [] 60 ?_;simp;done)
  |(refine ra_ready [0,2] (by decide +kernel) (by simp) ?_;simp only [List.mem_cons,List.not_mem_nil,or_false,forall_eq_or_imp,forall_eq])
  |(refine ra_ready [1,2] (by decide +kernel) (by simp) ?_;simp only [List.mem_cons,List.not_mem_nil,or_false,forall_eq_or_imp,forall_eq])
  |(refine ra_ready [4,5] (by decide +kernel) (by simp) ?_;simp only [List.mem_cons,List.not_mem_nil,or_false,forall_eq_or_imp,forall_eq])
  |(refine ra_ready [0] (by decide +kernel) (by simp) ?_;simp only [List.mem_cons,List.not_mem_nil,or_false,forall_eq_or_imp,forall_eq])
  |(refine ra_ready [1] (by decide +kernel) (by simp) ?_;simp only [List.mem_cons,List.not_mem_nil,or_false,forall_eq_or_imp,forall_eq])
  |(refine ra_ready [2] (by decide +kernel) (by simp) ?_;simp only [List.mem_cons,List.not_mem_nil,or_false,forall_eq_or_imp,forall_eq])
  |(refine ra_ready [3] (by decide +kernel) (by simp) ?_;simp only [List.mem_cons,List.not_mem_nil,or_false,forall_eq_or_imp,forall_eq])
  |(refine ra_ready [4] (by decide +kernel) (by simp) ?_;simp only [List.mem_cons,List.not_mem_nil,or_false,forall_eq_or_imp,forall_eq])
  |(refine ra_ready [5] (by decide +kernel) (by simp) ?_;simp only [List.mem_cons,List.not_mem_nil,or_false,forall_eq_or_imp,forall_eq])
  |(refine ra_ready [6] (by decide +kernel) (by simp) ?_;simp only [List.mem_cons,List.not_mem_nil,or_false,forall_eq_or_imp,forall_eq])
  |(refine ra_ready [7] (by decide +kernel) (by simp) ?_;simp only [List.mem_cons,List.not_mem_nil,or_false,forall_eq_or_imp,forall_eq])
  |refine And.intro ?_ ?_
  |(refine hC.raOp (fp:=[(.loc 2,.box 25 s.cells)]) (A:=⟨s.av,[]⟩) rfl ⟨rfl,rfl,rfl⟩ ?_ ?_;(· simp [news,Sc.cells]);simp [Sc.av,Sc.cells])
  |(refine hC.raOp (fp:=[(.loc 3,.box 48 n.cells)]) (A:=⟨n.av,[]⟩) rfl ⟨rfl,rfl,rfl⟩ ?_ ?_;(· simp [news,N.cells]);simp [N.av,N.cells])
  |(refine hC.raCallE [] [.can 0,.can 1,.can 2] (v50 tab2 s hn fun k hk=>(hs k hk).name) (fam0 s.kinds) rfl ?_ ?_;(· (intro z;simp [Sc.av,Sc.cells]));intro z;simp)
  |(refine hC.raCall [.can 0,.can 1,.can 2] (v51 s hs hn z n hm hw) rfl ?_ ?_;(· simp [N.av,N.cells]);simp)
  |(refine hC.raOp (fp:=[]) (A:=⟨.pv (intsN (n.badV s).1),[]⟩) rfl ⟨rfl,rfl,rfl⟩ ?_ ?_;(· simp [news]);simp)
  |(refine hC.raOp (fp:=[]) (A:=⟨vB (n.badV s).2,[]⟩) rfl ⟨rfl,rfl,rfl⟩ ?_ ?_;(· simp [news]);simp)
  |fail
theorem judged_of {s:Sc}(hf:s.fit)(h:s.ok=true):(∀k∈s.kinds,k.judged)∧(s.kinds.map Kd.name).Nodup:=by
 refine ⟨fun k hk=>?_,ok_names_nodup h⟩;obtain ⟨f1,f2,f3,_⟩:=hf.1 k hk;have hr:=(kind_names (Sc.ok_kind h hk)).2.2;exact ⟨right_tame hr (by omega),f2,hr,by omega,f1⟩
theorem mildAll_mk {l:List N}(h:∀x∈l,x.mildAll):N.mildAll.go l:=by
 induction l with
 |nil=>trivial
 |cons y l ih=>exact ⟨h y (by simp),ih fun x hx=>h x (by simp [hx])⟩
theorem mild_of:∀(n:N),n.wt≤100000→n.mildAll
 |.mk k t m a kids,h=>by
  obtain ⟨l1,l2,l3,l4,l5,l6,l7,l8⟩:=N.lim h;simp only [N.mildAll];refine ⟨⟨by simp only [M47];omega,fun p hp=>by have:=(l4 p hp).2;omega,by omega⟩,mildAll_mk fun x hx=>mild_of x (l5 x hx)⟩
termination_by n=>SizeOf.sizeOf n
decreasing_by exact N.kids_lt (e:=.mk k t m a kids) hx
noncomputable def checkV (s:Sc)(n:N):Int:=if s.ok=true then (if n.check=0 then (if (n.badV s).2=true then 6 else if n.kind=((s.kinds[0]?).getD k0).name then 0 else 6) else n.check) else 1
set_option maxRecDepth 20000 in
theorem v20 (s:Sc)(hf:s.fit)(n:N)(hw:n.wt≤100000):Fun Tryz.prog tab2 20 [s.av,n.av] [] (vI (checkV s n)) []:=by
 cases hok:s.ok with
 |false=>
  have hv:checkV s n=1:=by rw [checkV,if_neg (by simp [hok])]
  rw [hv];refine fun_of (T:=T7) (n:=33) (rs:=[.tmp 4]) Tryz.func20 (by kernel_rfl) rfl rfl rfl tok7 mixed (by simp) fun C hC=>?_;refine hC.go [] 60 ?_;simp [Sc.av,Sc.cells,N.av,N.cells];refine hC.call [] (g23 tab2 s hf) (by simp [Sc.av,Sc.cells]) ?_;rw [hok];refine hC.go [] 60 ?_;simp
 |true=>
  obtain ⟨hj,hn⟩:=judged_of hf hok;obtain ⟨n1,n2,_⟩:=Sc.ok_kinds hok;have hv:checkV s n=if n.check=0 then (if (n.badV s).2=true then 6 else if n.kind=((s.kinds[0]?).getD k0).name then 0 else 6) else n.check:=by rw [checkV,if_pos hok]
  rw [hv];have h0:(s.kinds[0]?).getD k0=s.kinds[0]:=by simp [n1]
  rw [h0];refine fun_of (T:=T7) (n:=33) (rs:=[.tmp 4]) Tryz.func20 (by kernel_rfl) rfl rfl rfl tok7 mixed (by simp) fun C hC=>?_;refine hC.go [] 60 ?_;simp [Sc.av,Sc.cells,N.av,N.cells];refine hC.call [] (g23 tab2 s hf) (by simp [Sc.av,Sc.cells]) ?_;rw [hok];refine hC.go [] 60 ?_;simp;refine hC.call [] (upT (f109 n hw)) (by simp [N.av,N.cells]) ?_;by_cases hc:n.check=0
  ·rw [if_pos hc] at hC;refine hC.go [] 60 ?_;simp [hc];refine hC.call [] (v19 s hj hn n (mild_of n hw) (by have:=high_wt n;omega)) (by simp [Sc.av,Sc.cells,N.av,N.cells]) ?_;cases hb:(n.badV s).2 with
   |true=>
    rw [if_pos hb] at hC;refine hC.go [] 60 ?_;simp;refine hC.drawn (by kernel_rfl) (by simp) ?_;refine hC.go [] 60 ?_;simp
   |false=>
    rw [if_neg (by simp [hb])] at hC;by_cases hk:n.kind=s.kinds[0].name
    ·rw [if_pos hk] at hC;refine hC.go [] 60 ?_;simp;refine hC.drawn (by kernel_rfl) (by simp) ?_;refine hC.go [] 60 ?_;simp [n1,hk,Kd.pv,E.pv_eq]
    ·rw [if_neg hk] at hC;refine hC.go [] 60 ?_;simp;refine hC.drawn (by kernel_rfl) (by simp) ?_;refine hC.go [] 60 ?_;simp [n1,hk,Kd.pv,E.pv_eq]
  ·rw [if_neg hc] at hC;refine hC.go [] 60 ?_;simp [hc]
theorem hold_nil5 {w:World}{F:Nat→Prop}{hd:Nm→Hd}{r:Nm}{ty:Nat}{a b c d:AV}(h:HoldB w F hd r (some (.box ty [a,b,c,d,.pv (.nilS 5)]))):HoldB w F hd r (some (.box ty [a,b,c,d,.pv (.val (.slice none 0 0))])):=by
 obtain ⟨k,arr,h1,h2,h3,h4,h5⟩:=h;refine ⟨k,arr,h1,h2,h3,fun j x v hj hv=>?_,h5⟩
 match j,hj with
 |0,hj=>exact h4 0 x v hj hv
 |1,hj=>exact h4 1 x v hj hv
 |2,hj=>exact h4 2 x v hj hv
 |3,hj=>exact h4 3 x v hj hv
 |4,hj=>
  simp at hj;subst hj;have:=h4 4 _ v rfl hv;cases this with
  |pv _ _ hp=>cases hp with
   |nilS=>exact .pv _ _ (.val _ rfl)
set_option maxRecDepth 20000 in
theorem v27v (s:Sc)(hf:s.fit)(hok:s.ok=true)(name:ByteArray)(hfd:(s.find name).2=true)(hl:(s.find name).1.attrs.length≤1000000) :
 Fun Tryz.prog tab2 27 [s.av,vS name] [] (.tup [.agg [vS name,vS ⟨#[]⟩,.pv (.ro 1 []),.pv (pairs ((s.find name).1.attrs.map fun d=>(d.name,d.first))),.pv (.val (.slice none 0 0))],vI 0]) []:=by
 obtain ⟨kd,hkd⟩:∃kd,(s.find name).1=kd:=⟨_,rfl⟩;rw [hkd] at hl ⊢;refine fun_of (T:=T7) (n:=45) (rs:=[.cell 4 48,.tmp 5]) Tryz.func27 (by kernel_rfl) rfl rfl rfl tok7 mixed (by simp) fun C hC=>?_;refine hC.go [] 60 ?_;simp [Sc.av,Sc.cells];refine hC.call [] (g23 tab2 s hf) (by simp [Sc.av,Sc.cells]) ?_;rw [hok];refine hC.go [] 60 ?_;simp;refine hC.call [] (g21 tab2 s name) (by simp [Sc.av,Sc.cells,Kd.av,Kd.cells,E.cells]) ?_;rw [hfd,hkd];refine hC.go [] 60 ?_;simp [Kd.av,Kd.cells,E.cells];refine go_len 27 2 (kd.attrs.map Dc.pv) (by simp) fun hlen=>?_;rw [List.length_map] at hlen;refine go_loop (ι:={x:Nat × List (ByteArray × ByteArray) // x.1≤kd.attrs.length∧x.2=(kd.attrs.take x.1).map fun d=>(d.name,d.first)}) (fun x=>⟨[(4,.ptr (.loc 4) 0),(8,.ptr (.loc 8) 0),(27,.pv (dcs kd.attrs)),(28,vI kd.attrs.length),(29,vI x.1.1)],
  [(.loc 4,some (.box 48 [vS ⟨#[]⟩,vS ⟨#[]⟩,.pv (.nilS 1),.pv (.nilS 2),.pv (.nilS 5)])),(.loc 8,some (.box 48 [vS name,vS ⟨#[]⟩,.pv (.nilS 1),.own (.can 0),.pv (.nilS 5)])),(.can 0,some (.row 56 2 (x.1.2.map fun p=>[.val (.string p.1),.val (.string p.2)])))]⟩)
  (fun x=>kd.attrs.length-x.1.1) ⟨(0,[]),by simp⟩ [(.can 0,.nil)] (by simp) fun x ih=>?_
 obtain ⟨⟨i,out⟩,hi,ho⟩:=x;simp only at hi ih ho;by_cases hlt:i<kd.attrs.length
 ·refine hC.go [] 60 ?_;have hw:=wr64 ((i:Int)+1) (by omega);have hol:out.length=i:=by rw [ho];simp;omega
  simp [hlt];refine hC.drawn (by kernel_rfl) (by simp) ?_;refine hC.go [] 60 ?_;simp;refine hC.call [] (g25 tab2 kd.attrs[i]) (by simp) ?_;refine hC.go [] 60 ?_;simp;refine ⟨by omega,?_⟩;have ht:out++[(kd.attrs[i].name,kd.attrs[i].first)]=(kd.attrs.take (i+1)).map fun d=>(d.name,d.first):=by rw [ho,List.take_add_one,List.getElem?_eq_getElem hlt,List.map_append];rfl
  exact go_to [(.can 0,.nm (.loc 41))] (ih ⟨(i+1,out++[(kd.attrs[i].name,kd.attrs[i].first)]),hlt,ht⟩ (by simp;omega)) (by simp [hw])
 ·rw [List.take_of_length_le (by omega)] at ho;refine hC.til [1012] [] 60 ?_;simp [hlt];refine go_blk (.loc 8) (.box 48 [vS name,vS ⟨#[]⟩,.pv (.nilS 1),.own (.can 0),.pv (.nilS 5)]) (.box 48 [vS name,vS ⟨#[]⟩,.pv (.nilS 1),.own (.can 0),.pv (.val (.slice none 0 0))]) (by simp) (fun w F hd=>hold_nil5) ?_;refine hC.go [] 60 ?_;simp [ho]
theorem v27 (s:Sc)(hf:s.fit)(hok:s.ok=true)(name:ByteArray)(hfd:(s.find name).2=true)(hl:(s.find name).1.attrs.length≤1000000) :
 Fun Tryz.prog tab2 27 [s.av,vS name] [] (.tup [.agg [vS name,vS ⟨#[]⟩,.pv (.ro 1 []),.pv (pairs ((s.find name).1.attrs.map fun d=>(d.name,d.first))),.pv (.ro 5 [])],vI 0]) []:=by
 refine Fun.val (v27v s hf hok name hfd hl) fun w F hd c h=>?_;cases h with
 |tup _ cs h1 h2=>
  refine .tup _ cs h1 fun j x v a b=>?_
  match j,a with
  |0,a=>
   simp at a;subst a;have:=h2 0 _ v rfl b;cases this with
   |agg _ ds g1 g2 g3=>
    refine .agg _ ds g1 (fun j x v a b=>?_) g3
    match j,a with
    |0,a=>exact g2 0 x v a b
    |1,a=>exact g2 1 x v a b
    |2,a=>exact g2 2 x v a b
    |3,a=>exact g2 3 x v a b
    |4,a=>
     simp at a;subst a;have:=g2 4 _ v rfl b;cases this with
     |pv _ _ hp=>cases hp with
      |val _ _=>exact rep_nil (sz':=5) (.pv _ _ (.nilS 5))
  |1,a=>exact h2 1 x v a b
set_option maxRecDepth 20000 in
theorem v52 (Gl:Granted)(e:E)(left:Int):Fun Tryz.prog Gl 52 [e.av,vI left] [] (vI (e.few left)) []:=by
 have hlt:=few_eq e left;refine fun_of (T:=T7) (n:=27) (rs:=[.tmp 4]) Tryz.func52 (by kernel_rfl) rfl rfl rfl tok7 mixed (by simp) fun C hC=>?_;refine hC.vc [] 100 ?_;simp [E.av,E.cells];obtain ⟨l0,hl0⟩:∃l0,wr .i64 (left-1)=l0:=⟨_,rfl⟩;rw [hl0] at hlt ⊢;refine go_lenB (.loc 2) 63 e.cells 2 3 (e.kids.map E.pv) (by simp [E.cells]) (by simp [E.cells]) fun hlen=>?_;rw [List.length_map] at hlen;refine go_loop (ι:={x:Nat × Int // x.1≤e.kids.length∧E.few.go e.kids l0=E.few.go (e.kids.drop x.1) x.2}) (fun x=>⟨[(1,vI x.1.2),(2,.ptr (.loc 2) 0),(5,vI x.1.1)],[(.loc 2,some (.box 63 e.cells))]⟩)
  (fun x=>e.kids.length-x.1.1) ⟨(0,l0),by simp⟩ [] (by simp [E.cells]) fun x ih=>?_
 obtain ⟨⟨i,l⟩,hi,hn⟩:=x;simp only at hi hn ih;refine hC.vc [] 60 ?_;by_cases hk:i<e.kids.length
 ·rw [List.drop_eq_getElem_cons hk] at hn;simp only [E.few.go] at hn;by_cases hp:0<l
  ·rw [if_pos hp] at hn;simp [hk,hp,E.cells,E.pv_eq];refine hC.call [] (v52 Gl e.kids[i] l) (by simp [E.av,E.cells]) ?_;refine hC.vc [] 40 ?_;simp;have hw:=wr64 ((i:Int)+1) (by omega);exact go_to [] (ih ⟨(i+1,_),hk,hn⟩ (by simp;omega)) (by simp [hw,E.cells])
  ·rw [if_neg hp] at hn;simp [hk,hp,E.cells,hlt,hn]
 ·rw [List.drop_eq_nil_of_le (by omega)] at hn;simp only [E.few.go] at hn;by_cases hp:0<l<;>simp [hk,hp,E.cells,hlt,hn]
termination_by SizeOf.sizeOf e
decreasing_by exact E.kids_lt (by simp)
set_option maxRecDepth 20000 in
theorem v23 (Gl:Granted)(s:Sc)(hw:∀k∈s.kinds,k.attrs.length≤M47)(h40:s.kinds.length≤M47)(h41:s.marks.length≤M47):Fun Tryz.prog Gl 23 [s.av] [] (vB s.lite9) []:=by
 have hli:s.lite9=(decide (0<kindsFew s.kinds 600)&&(decide ((s.kinds.length:Int)<40)&&decide ((s.marks.length:Int)<40))):=rfl;refine fun_of (T:=T7) (n:=46) (rs:=[.tmp 2]) Tryz.func23 (by kernel_rfl) rfl rfl rfl tok7 mixed (by simp) fun C hC=>?_;refine hC.go [] 60 ?_;simp [Sc.av,Sc.cells];refine go_loop (ι:={x:Nat × Int // x.1≤s.kinds.length∧kindsFew s.kinds 600=kindsFew (s.kinds.drop x.1) x.2}) (fun x=>⟨[(1,.ptr (.loc 1) 0),(3,vI x.1.2),(4,vI x.1.1)],[(.loc 1,some (.box 25 s.cells))]⟩)
  (fun x=>s.kinds.length-x.1.1) ⟨(0,600),by simp⟩ [] (by simp [Sc.cells]) fun x ih=>?_
 obtain ⟨⟨i,left⟩,hi,hn⟩:=x;simp only at hi hn ih;simp only [M47] at h40 h41;have fin:kindsFew s.kinds 600=left→∀L':Int,L'=left→s.lite9=(decide (0<left)&&(decide ((s.kinds.length:Int)<40)&&decide ((s.marks.length:Int)<40))):=fun h _ _=>by rw [hli,h]
 by_cases hlt:i<s.kinds.length
 ·have hw1:=wr64 ((i:Int)+1) (by omega);obtain ⟨k,hkk⟩:∃k,s.kinds[i]=k:=⟨_,rfl⟩;rw [List.drop_eq_getElem_cons hlt,hkk] at hn;simp only [kindsFew] at hn;by_cases h0:0<left
  ·rw [if_pos h0] at hn;refine hC.go [] 60 ?_;simp [Sc.cells,hlt,h0];refine hC.drawn (by kernel_rfl) (by simp) ?_;refine hC.go [] 60 ?_;simp [hlt,hkk,Kd.pv,E.pv_eq];refine hC.call [] (v52 Gl k.content left) (by simp [E.av,E.cells]) ?_;refine hC.go [] 60 ?_;simp [hlt,hkk,Kd.pv,E.pv_eq];exact go_to [] (ih ⟨(i+1,_),hlt,hn⟩ (by simp;omega)) (by simp [hw1,Sc.cells])
  ·rw [if_neg h0] at hn;have hf:=fin hn left rfl;rw [decide_eq_false h0,Bool.false_and] at hf;refine hC.go [] 60 ?_;simp [Sc.cells,hlt,h0,hf]
 ·rw [List.drop_eq_nil_of_le (by omega)] at hn;simp only [kindsFew] at hn;have hf:=fin hn left rfl;have hlt':¬(i:Int)<s.kinds.length:=by omega
  by_cases h0:0<left
  ·by_cases h1:(s.kinds.length:Int)<40
   ·have h1':s.kinds.length<40:=(by omega);rw [decide_eq_true h0,decide_eq_true h1,Bool.true_and,Bool.true_and] at hf;refine hC.go [] 60 ?_;simp [Sc.cells,hlt,h0,h1,h1',hf]
   ·have h1':¬s.kinds.length<40:=(by omega);rw [decide_eq_false h1] at hf;simp only [Bool.false_and,Bool.and_false] at hf;refine hC.go [] 60 ?_;simp [Sc.cells,hlt,h0,h1,h1',hf]
  ·rw [decide_eq_false h0,Bool.false_and] at hf;refine hC.go [] 60 ?_;simp [Sc.cells,hlt,h0,hf]
theorem hasB_iff {e:E}(he:Tame e)(w:Row):hasB e w=true↔e.L w:=by
 obtain ⟨h1,h2⟩:=dfa_least he.1 he.2;exact (sem_has h1.sem.toSem0 w).trans (h2 w)
def ex9L2:Bs:=[110,111,100,101,32,112,97,114,97,58,32,116,101,120,116,42]
def ex9T:Bs:=[110,111,100,101,32,100,111,99,58,32,112,97,114,97,43,10,110,111,100,101,32,112,97,114,97,58,32,116,101,120,116,42,10]
theorem ex9_split:splitC 10 ex9T = [exL1,ex9L2,[]]:=by kernel_rfl
def ex9K2:Kd:=⟨paraK,ex2,[]⟩
def ex9:Sc:=⟨[exK1,ex9K2],[]⟩
theorem ex9_kind2:kindR (ex9L2.drop 5)=(ex9K2,true):=by
 have h1:cutT (ex9L2.drop 5) [58,32]=([112,97,114,97],ex2S,true):=by kernel_rfl
 have h2:splitC 32 ([112,97,114,97]:Bs) = [[112,97,114,97]]:=by kernel_rfl
 unfold kindR;rw [h1];simp only [if_true,h2,List.tail_cons,declsFrom,List.headD_cons,ex2_parse];rfl
theorem ex9_lines:linesFrom [] [] (splitC 10 ex9T)=some ([exK1,ex9K2],[]):=by
 rw [ex9_split];have a1:preB nodeS exL1=true:=by decide
 have a2:preB nodeS ex9L2=true:=by decide
 have a4:preB nodeS []=false:=by decide
 have b4:preB markS []=false:=by decide
 simp only [linesFrom,a1,a2,a4,marksF,node_mark a1,node_mark a2,b4,ex_kind1,ex9_kind2];rfl
theorem ex9_known1:ex1.names.any ex9.unknown=false:=by
 rw [List.any_eq_false];intro s hs;rw [(ex_occ1 s).1 ((names_mem _ _).1 hs)];decide +kernel
theorem ex9_known2:ex2.names.any ex9.unknown=false:=by
 rw [List.any_eq_false];intro s hs;rw [(ex_occ2 s).1 ((names_mem _ _).1 hs)];decide +kernel
theorem ex9_ok1:exK1.ok ex9=true:=by
 have h1:exK1.attrs.all Dc.ok=true:=rfl;have h2:isName exK1.name=true:=by decide +kernel
 have h3:rise (exK1.attrs.map (·.name))=true:=rfl;unfold Kd.ok;rw [h1,h2,h3,show exK1.content=ex1 from rfl,ex1_right,ex9_known1];rfl
theorem ex9_ok2:ex9K2.ok ex9=true:=by
 have h1:ex9K2.attrs.all Dc.ok=true:=rfl;have h2:isName ex9K2.name=true:=by decide +kernel
 have h3:rise (ex9K2.attrs.map (·.name))=true:=rfl;unfold Kd.ok;rw [h1,h2,h3,show ex9K2.content=ex2 from rfl,ex2_right,ex9_known2];rfl
theorem ex9_scok:ex9.ok=true:=by
 have h1:kindsFrom ex9 0 ex9.kinds=true:=by
  show (decide (ex9.place docK=((0:Nat):Int))&&exK1.ok ex9&&(decide (ex9.place paraK=((0+1:Nat):Int))&&ex9K2.ok ex9&&true))=true;rw [ex9_ok1,ex9_ok2];decide +kernel
 unfold Sc.ok;rw [h1];decide +kernel
theorem ex9_bytes:ex9.bytes=ex9T:=by
 have h1:ex1.bytes=ex1S:=by unfold E.bytes E.print;rw [if_pos ex1_right,ex1_text,bs_list]
 have h2:ex2.bytes=ex2S:=by unfold E.bytes E.print;rw [if_pos ex2_right,ex2_text,bs_list]
 have h3:lineK exK1=exL1++[10]:=by
  unfold lineK;rw [show exK1.content=ex1 from rfl,h1]
  kernel_rfl
 have h4:lineK ex9K2=ex9L2++[10]:=by
  unfold lineK;rw [show ex9K2.content=ex2 from rfl,h2]
  kernel_rfl
 show lineK exK1++(lineK ex9K2++[])++[]=ex9T;rw [h3,h4]
 kernel_rfl
theorem ex9_sparse:sparse ex9T=(ex9,0):=by
 unfold sparse;rw [ex9_lines];have hp:(Sc.mk [exK1,ex9K2] []).print=(bs ex9T,0):=by
  show ex9.print=_;unfold Sc.print;rw [if_pos ex9_scok,ex9_bytes]
 simp only [hp];rw [if_pos ⟨trivial,trivial⟩];rfl
def doc0:N:=.mk docK ⟨#[]⟩ [] [] []
def par0:N:=.mk paraK ⟨#[]⟩ [] [] []
def doc1:N:=.mk docK ⟨#[]⟩ [] [] [par0]
theorem ex1_none:hasB ex1 []=false:=by
 rw [←Bool.not_eq_true,hasB_iff (right_tame ex1_right (by decide)),L_eq];show ¬((43:Int)=42∧_∨Many (E.mk 110 paraK []).L [])
 rintro (h|h)
 ·exact absurd h.1 (by decide)
 ·have:=h.nil rfl;simp [E.L] at this
theorem ex1_para:hasB ex1 [paraK]=true:=by
 rw [hasB_iff (right_tame ex1_right (by decide)),L_eq];exact .inr (.one (show (E.mk 110 paraK []).L [paraK] by rw [L_eq];rfl))
theorem ex2_none:hasB ex2 []=true:=by
 rw [hasB_iff (right_tame ex2_right (by decide)),L_eq];exact .inl ⟨rfl,rfl⟩
theorem doc0_fits:doc0.fitsV ex9=false:=by
 have:doc0.fitsV ex9=(attrsFit [] []&&hasB ex1 []):=rfl;rw [this,ex1_none];rfl
theorem par0_fits:par0.fitsV ex9=true:=by
 have:par0.fitsV ex9=(attrsFit [] []&&hasB ex2 []):=rfl;rw [this,ex2_none];rfl
theorem doc1_fits:doc1.fitsV ex9=true:=by
 have:doc1.fitsV ex9=(attrsFit [] []&&hasB ex1 [paraK]):=rfl;rw [this,ex1_para];rfl
set_option maxRecDepth 20000 in
theorem doc0_check:checkV ex9 doc0=6:=by
 have h1:doc0.check=0:=by kernel_rfl
 rw [checkV,if_pos ex9_scok,if_pos h1,badV_eq,doc0_fits];rfl
set_option maxRecDepth 20000 in
theorem doc1_ok:doc1.check=0:=by
 have h1:doc1.form=true:=by decide +kernel
 have h2:doc1.deep=2:=by
  have e:par0.deep=1:=by rw [N.deep_eq,if_neg (by decide)];exact wr64 1 (by omega)
  rw [N.deep_eq,if_neg (by decide)];show wr .i64 (N.deep.go [par0] 0+1)=2;simp only [N.deep.go,e];exact wr64 2 (by omega)
 have h3:doc1.size=4:=by
  have e:par0.size=2:=by rw [N.size_eq,if_neg (by decide)];exact wr64 2 (by omega)
  rw [N.size_eq,if_neg (by decide)];show wr .i64 (2+N.size.go [par0] 0)=4;simp only [N.size.go,e,wr64 (0+2) (by omega)];exact wr64 4 (by omega)
 rw [N.check,h1,h2,h3];rfl
set_option maxRecDepth 20000 in
theorem doc1_check:checkV ex9 doc1=0:=by
 have h1:=doc1_ok;have h2:par0.badV ex9=([],false):=by rw [badV_eq,par0_fits];rfl
 have h3:(doc1.badV ex9).2=false:=by
  have hk:doc1.kids = [par0]:=rfl;rw [badV_eq,doc1_fits,if_neg (by decide),hk];simp only [N.badV.go,h2,Bool.false_eq_true,if_false]
 simp only [checkV,ex9_scok,h1,h3,if_true,Bool.false_eq_true,if_false];exact if_pos rfl
theorem rep_bare (k t:ByteArray)(x y:AV)(hxy:∀(w:World) (F:Nat→Prop) (hd:Nm→Hd) (c:Value),Rep w F hd x c→Rep w F hd y c)(w:World)(F:Nat→Prop)(hd:Nm→Hd)(c:Value)
 (h:Rep w F hd (.agg [vS k,vS t,.pv (.nilS 1),.pv (.nilS 2),x]) c):Rep w F hd (.agg [vS k,vS t,.pv (.ro 1 []),.pv (.ro 2 []),y]) c:=by
 cases h with
 |agg _ cs hl hh h1=>
  refine .agg _ cs hl (fun j z v a b=>?_) h1
  match j,a with
  |0,a=>exact hh 0 z v a b
  |1,a=>exact hh 1 z v a b
  |2,a=>simp at a;subst a;exact rep_nil (hh 2 _ v rfl b)
  |3,a=>simp at a;subst a;exact rep_nil (hh 3 _ v rfl b)
  |4,a=>simp at a;subst a;exact hxy _ _ _ _ (hh 4 _ v rfl b)
theorem fun_bare {Gl:Granted}{g:FuncId}{a:AV}{k t:ByteArray}{x y v:AV}(hxy:∀(w:World) (F:Nat→Prop) (hd:Nm→Hd) (c:Value),Rep w F hd x c→Rep w F hd y c)(h:Fun Tryz.prog Gl g [a,.agg [vS k,vS t,.pv (.ro 1 []),.pv (.ro 2 []),y]] [] v []) :
 Fun Tryz.prog Gl g [a,.agg [vS k,vS t,.pv (.nilS 1),.pv (.nilS 2),x]] [] v []:=
 fun_args h (by simp) fun j z u hz hu w F hd c hc=>by
  match j,hz,hu with
  |0,hz,hu=>simp at hz hu;subst hz hu;exact hc
  |1,hz,hu=>simp at hz hu;subst hz hu;exact rep_bare k t x y hxy w F hd c hc
set_option maxRecDepth 20000 in
theorem v16:Fun Tryz.prog tab2 16 [] [] (vB true) []:=by
 have h1:=upT (g29 ex9T (by decide));rw [ex9_sparse] at h1;have hf:ex9.fit:=by
  refine ⟨fun k hk=>?_,by simp [ex9]⟩;have:k=exK1∨k=ex9K2:=by simpa [ex9] using hk
  rcases this with rfl|rfl
  ·exact ⟨by decide,by simp [exK1,ex1,E.small,E.small.go,paraK];decide,by decide,by decide,by simp [exK1]⟩
  ·exact ⟨by decide,by simp [ex9K2,ex2,E.small,E.small.go,textK];decide,by decide,by decide,by simp [ex9K2]⟩
 have h2:=v20 ex9 hf doc0 (by decide);have h3:=v20 ex9 hf doc1 (by decide);rw [doc0_check] at h2;rw [doc1_check] at h3;have h4:=v47 tab2 [par0] (by decide);have h2':Fun Tryz.prog tab2 20 [ex9.av,.agg [vS docK,vS ⟨#[]⟩,.pv (.ro 1 []),.pv (.ro 2 []),.pv (.ro 5 [])]] [] (vI 6) []:=h2;have h3':Fun Tryz.prog tab2 20 [ex9.av,.agg [vS docK,vS ⟨#[]⟩,.pv (.ro 1 []),.pv (.ro 2 []),.pv (.ro 5 [[.val (.string paraK),.val (.string ⟨#[]⟩),.ro 1 [],.ro 2 [],.ro 5 []]])]] [] (vI 0) []:=by
  have e:nodes [par0] = .ro 5 [[.val (.string paraK),.val (.string ⟨#[]⟩),.ro 1 [],.ro 2 [],.ro 5 []]]:=by simp [par0,N.pv_eq,N.kind,N.text,N.marks,N.attrs,N.kids]
  rw [←e];exact h3
 have h4':Fun Tryz.prog tab2 47 [.pv (.ro 5 [[.val (.string paraK),.val (.string ⟨#[]⟩),.ro 1 [],.ro 2 [],.ro 5 []]])] [] (.pv (strs [paraK])) []:=by
  have e:nodes [par0] = .ro 5 [[.val (.string paraK),.val (.string ⟨#[]⟩),.ro 1 [],.ro 2 [],.ro 5 []]]:=by simp [par0,N.pv_eq,N.kind,N.text,N.marks,N.attrs,N.kids]
  rw [←e];exact h4
 refine fun_of (T:=T7) (n:=28) (rs:=[.tmp 0]) Tryz.func16 (by kernel_rfl) rfl rfl rfl tok7 mixed (by simp) fun C hC=>?_;refine hC.go [] 60 ?_;simp;refine hC.call [] h1 (by simp [Sc.av,Sc.cells];rfl) ?_;refine hC.go [] 60 ?_;simp [Sc.av,Sc.cells];refine hC.call [] (fun_bare (x:=.pv (.nilS 5)) (fun _ _ _ _ h=>rep_nil h) h2') (by simp [Sc.av,Sc.cells,docK]) ?_;refine hC.go [] 60 ?_;simp [Sc.av,Sc.cells];refine hC.call [] (fun_bare (x:=.pv (.ro 5 [[.val (.string paraK),.val (.string ⟨#[]⟩),.ro 1 [],.ro 2 [],.ro 5 []]])) (fun _ _ _ _ h=>h) h3') (by simp [Sc.av,Sc.cells,docK,paraK]) ?_;refine hC.go [] 60 ?_;simp [Sc.av,Sc.cells];refine hC.call [] h4' (by simp [paraK]) ?_;refine hC.go [] 60 ?_;simp
theorem lite9_fit {s:Sc}(hw:s.wide)(h:s.lite9=true):s.fit∧s.kinds.length≤40∧s.marks.length≤40∧∀k∈s.kinds,k.content.cnt≤600∧k.attrs.length≤600:=by
 simp only [Sc.lite9,Bool.and_eq_true,decide_eq_true_eq] at h;have hk:=kindsFew_pos s.kinds 600 (fun k hk=>(hw.1 k hk).2.2.1) (by omega) h.1;refine ⟨⟨fun k hkm=>?_,hw.2.2.2⟩,by omega,by omega,hk⟩;obtain ⟨q1,q2⟩:=hk k hkm;obtain ⟨f1,f2,f3,f4⟩:=hw.1 k hkm;exact ⟨f1,f2,by omega,by omega,fun d hd=>⟨(f4 d hd).1,(f4 d hd).2.2⟩⟩
theorem takes_first (d:Dc):d.takes d.first=true:=by
 obtain ⟨nm,vals⟩:=d;cases vals with
 |nil=>exact (by decide +kernel:(Dc.mk ⟨#[]⟩ []).takes (Dc.mk ⟨#[]⟩ []).first=true)
 |cons x l=>simp [Dc.takes,Dc.first]
theorem first_size {d:Dc}(h:d.wide):d.first.size≤9223372036854775807:=by
 obtain ⟨nm,vals⟩:=d;cases vals with
 |nil=>show (⟨#[]⟩:ByteArray).size≤_;decide
 |cons x l=>have:=h.2.2 x (by simp);simp only [M47] at this;show x.size≤_;omega
set_option maxRecDepth 20000 in
set_option maxHeartbeats 4000000 in
theorem v5 (s:Sc)(n:N)(hs:s.wide)(hn:n.small):Fun Tryz.prog tab2 5 [s.av,n.av] [] (vB true) []:=by
 have c23:=v23 tab2 s (fun k hk=>(hs.1 k hk).2.2.1) hs.2.1 hs.2.2.1;have c24:=f36 tab2 n 1500 hn (by decide) (by decide);refine fun_of (T:=T7) (n:=153) (rs:=[.tmp 4]) Tryz.func5 (by kernel_rfl) rfl rfl rfl tok7 mixed (by simp) fun C hC=>?_;refine hC.go [] 60 ?_;simp [Sc.av,Sc.cells,N.av,N.cells];refine hC.call [] v16 (by simp) ?_;refine hC.go [] 60 ?_;simp;refine hC.call [] c23 (by simp [Sc.av,Sc.cells]) ?_;cases hl:s.lite9 with
 |false=>
  refine hC.go [] 60 ?_;simp
 |true=>
  obtain ⟨hf,hk40,hm40,hka⟩:=lite9_fit hs hl;refine hC.go [] 60 ?_;simp;refine hC.call [] c24 (by simp [N.av,N.cells]) ?_;by_cases hw:n.wt<1500
  ·have hlb:lessB 1500 n.wt=1500-n.wt:=by unfold lessB;rw [if_neg (by omega)]
   rw [hlb];have h0:¬((1500:Int)-n.wt<0):=(by omega);refine hC.go [] 60 ?_;simp [h0];refine hC.call [] (g23 tab2 s hf) (by simp [Sc.av,Sc.cells]) ?_;cases hok:s.ok with
   |false=>
    refine hC.go [] 60 ?_;simp
   |true=>
    refine hC.til [1005] [] 60 ?_;simp;obtain ⟨hj,hnd⟩:=judged_of hf hok;obtain ⟨n1,n2,_⟩:=Sc.ok_kinds hok;have hw5:n.wt≤100000:=(by omega);refine go_cut (ι:=Unit) (fun _=>⟨[(2,.ptr (.loc 2) 0),(4,vB false)],[(.loc 2,some (.box 25 s.cells))]⟩) (fun _=>?_) fun hJ=>?_
    ·refine hC.go [] 60 ?_;simp [Sc.cells];refine go_lenB (.loc 2) 25 s.cells 0 5 (s.kinds.map Kd.pv) (by simp [Sc.cells]) (by simp [Sc.cells]) fun hlen=>?_;rw [List.length_map] at hlen;refine go_loop (ι:={i:Nat // i≤s.kinds.length}) (fun x=>⟨[(2,.ptr (.loc 2) 0),(4,vB false),(9,vI x.1)],[(.loc 2,some (.box 25 s.cells))]⟩)
      (fun x=>s.kinds.length-x.1) ⟨0,by simp⟩ [] (by simp [Sc.cells]) fun x ih=>?_
     obtain ⟨i,hi⟩:=x;simp only at hi ih;by_cases hlt:i<s.kinds.length
     ·have hw1:=wr64 ((i:Int)+1) (by omega);obtain ⟨kd,hkd⟩:∃kd,s.kinds[i]=kd:=⟨_,rfl⟩;have hkm:kd∈s.kinds:=(by rw [←hkd];simp);have hfd:s.find kd.name=(kd,true):=ok_find hok hkm;have c27:=v27 s hf hok kd.name (by rw [hfd]) (by rw [hfd];have:=(hka kd hkm).2;show kd.attrs.length≤1000000;omega);rw [hfd] at c27;refine hC.go [] 60 ?_;simp [Sc.cells,hlt,hkd,Kd.pv,E.pv_eq];refine hC.call [] c27 (by simp [Sc.av,Sc.cells]) ?_;refine hC.go [] 60 ?_;simp;refine go_lenB (.loc 10) 66 kd.cells 4 2 (kd.attrs.map Dc.pv) (by simp [Kd.cells,E.cells]) (by simp [Kd.cells,E.cells]) fun hlen2=>?_;rw [List.length_map] at hlen2;refine go_loop (ι:={j:Nat // j≤kd.attrs.length}) (fun x=>⟨[(2,.ptr (.loc 2) 0),(4,vB false),(9,vI i),(10,.ptr (.loc 10) 0),(11,.ptr (.loc 11) 0),(13,vI x.1)],
       [(.loc 2,some (.box 25 s.cells)),(.loc 10,some (.box 66 kd.cells)),(.loc 11,some (.box 48 [vS kd.name,vS ⟨#[]⟩,.pv (.ro 1 []),.pv (pairs (kd.attrs.map fun d=>(d.name,d.first))),.pv (.ro 5 [])]))]⟩)
       (fun x=>kd.attrs.length-x.1) ⟨0,by simp⟩ [] (by simp [Sc.cells,Kd.cells,E.cells]) fun x ih2=>?_
      obtain ⟨j,hjl⟩:=x;simp only at hjl ih2;by_cases hltj:j<kd.attrs.length
      ·have hw2:=wr64 ((j:Int)+1) (by omega);have c28:=g25 tab2 kd.attrs[j];have hdw:=(hs.1 kd hkm).2.2.2 kd.attrs[j] (by simp);have c29:=upT (g27 kd.attrs[j] kd.attrs[j].first (first_size hdw));rw [takes_first] at c29;refine hC.go [] 60 ?_;simp [Kd.cells,E.cells,hltj];refine hC.drawn (by kernel_rfl) (by simp [Sc.cells]) ?_;refine hC.go [] 60 ?_;simp [hltj];refine hC.call [] c28 (by simp) ?_;refine hC.go [] 60 ?_;simp [hltj];refine hC.call [] c29 (by simp) ?_;refine hC.go [] 60 ?_;simp;exact go_to [] (ih2 ⟨j+1,hltj⟩ (by simp;omega)) (by simp [hw2,Sc.cells,Kd.cells,E.cells])
      ·refine hC.go [] 60 ?_;simp [Kd.cells,E.cells,hltj];exact go_to [] (ih ⟨i+1,hlt⟩ (by simp;omega)) (by simp [hw1,Sc.cells])
     ·refine hC.go [] 60 ?_;simp [Sc.cells,hlt]
    ·have hck:checkV s n=if n.check=0 then (if (n.badV s).2=true then 6 else if n.kind=((s.kinds[0]?).getD k0).name then 0 else 6) else n.check:=by rw [checkV,if_pos hok]
     have h0:(s.kinds[0]?).getD k0=s.kinds[0]:=(by simp [n1]);rw [h0] at hck;have c26:=upT (f109 n hw5);have c20:=v20 s hf n hw5;have c19:=v19 s hj hnd n (mild_of n hw5) (by have:=high_wt n;omega);by_cases hc:n.check=0
     ·rw [if_pos hc] at hck;rw [hc] at c26;refine hC.til [1009] [] 60 ?_;simp;refine hC.call [] c26 (by simp [N.av,N.cells]) ?_;refine hC.til [1009] [] 60 ?_;simp;refine hC.call [] c19 (by simp [Sc.av,Sc.cells,N.av,N.cells]) ?_;cases hb:(n.badV s).2 with
      |true=>
       rw [if_pos hb] at hck;rw [hck] at c20;refine hC.til [1009] [] 60 ?_;simp;refine hC.drawn (by kernel_rfl) (by simp) ?_;refine hC.til [1009] [] 60 ?_;simp;refine hC.call [] c20 (by simp [Sc.av,Sc.cells,N.av,N.cells]) ?_;refine hC.til [1009] [] 60 ?_;simp;exact go_to [] (hJ ()) (by simp [Sc.cells])
      |false=>
       rw [if_neg (by simp [hb])] at hck;by_cases hk:n.kind=s.kinds[0].name
       ·rw [if_pos hk] at hck;rw [hck] at c20;refine hC.til [1009] [] 60 ?_;simp;refine hC.drawn (by kernel_rfl) (by simp) ?_;refine hC.til [1009] [] 60 ?_;simp;refine hC.call [] c20 (by simp [Sc.av,Sc.cells,N.av,N.cells]) ?_;refine hC.til [1009] [] 60 ?_;simp [n1,hk,Kd.pv,E.pv_eq];exact go_to [] (hJ ()) (by simp [Sc.cells])
       ·rw [if_neg hk] at hck;rw [hck] at c20;refine hC.til [1009] [] 60 ?_;simp;refine hC.drawn (by kernel_rfl) (by simp) ?_;refine hC.til [1009] [] 60 ?_;simp;refine hC.call [] c20 (by simp [Sc.av,Sc.cells,N.av,N.cells]) ?_;refine hC.til [1009] [] 60 ?_;simp [n1,hk,Kd.pv,E.pv_eq];exact go_to [] (hJ ()) (by simp [Sc.cells])
     ·refine hC.til [1009] [] 60 ?_;simp;refine hC.call [] c26 (by simp [N.av,N.cells]) ?_;refine hC.til [1009] [] 60 ?_;simp [hc];exact go_to [] (hJ ()) (by simp [Sc.cells])
  ·have hlb:lessB 1500 n.wt = -1:=by unfold lessB;rw [if_pos (by omega)]
   rw [hlb];refine hC.go [] 60 ?_;simp
theorem find_one {s:Sc}(h:s.ok=true){k:Kd}(hk:k∈s.kinds)(name:ByteArray)(e:k.name=name):s.kinds.find? (fun x=>decide (x.name=name))=some k:=by
 cases hf:s.kinds.find? fun x=>decide (x.name=name) with
 |none=>exact absurd (List.find?_eq_none.1 hf k hk) (by simp [e])
 |some m=>
  have h1:=List.mem_of_find?_eq_some hf;have h2:m.name=name:=by simpa using List.find?_some hf
  rw [ok_name_inj h h1 hk (h2.trans e.symm)]
theorem alike_fits {a b:Sc}(h:AlikeS a b)(fa:a.fit)(fb:b.fit)(n:N):n.fitsV a=n.fitsV b:=by
 obtain ⟨ja,_⟩:=judged_of fa h.ok1;obtain ⟨jb,_⟩:=judged_of fb h.ok2;unfold N.fitsV;by_cases ht:n.kind=textK
 ·rw [if_pos ht,if_pos ht];have:unmarked a=unmarked b:=by funext m;unfold unmarked;rw [h.marks]
  rw [this]
 ·rw [if_neg ht,if_neg ht];cases hf:a.kinds.find? fun k=>decide (k.name=n.kind) with
  |none=>
   cases hg:b.kinds.find? fun k=>decide (k.name=n.kind) with
   |none=>rfl
   |some m=>
    have h1:=List.mem_of_find?_eq_some hg;have h2:m.name=n.kind:=(by simpa using List.find?_some hg);obtain ⟨k,hk,e,_⟩:=h.symm.kinds m h1;exact absurd (List.find?_eq_none.1 hf k hk) (by simp [e,h2])
  |some k=>
   have h1:=List.mem_of_find?_eq_some hf;have h2:k.name=n.kind:=(by simpa using List.find?_some hf);obtain ⟨m,hm,e1,e2,e3⟩:=h.kinds k h1;rw [find_one h.ok2 hm n.kind (e1.trans h2)];have:hasB k.content (n.kids.map N.kind)=hasB m.content (n.kids.map N.kind):=by
    rw [Bool.eq_iff_iff,hasB_iff (ja k h1).tame,hasB_iff (jb m hm).tame];exact e3 _
   simp only [e2,this]
theorem alike_bad {a b:Sc}(h:AlikeS a b)(fa:a.fit)(fb:b.fit)(n:N):n.badV a=n.badV b:=by
 rw [badV_eq,badV_eq,alike_fits h fa fb n];have key:∀(l:List N) (i:Nat),(∀x∈l,x∈n.kids)→N.badV.go a l i=N.badV.go b l i:=by
  intro l;induction l with
  |nil=>intro i _;rfl
  |cons x l ih=>
   intro i hx;simp only [N.badV.go];rw [alike_bad h fa fb x,ih _ fun y hy=>hx y (by simp [hy])]
 rw [key n.kids 0 fun x hx=>hx]
termination_by n.wt
decreasing_by exact wt_lt (hx x (by simp))
theorem alike_check {a b:Sc}(h:AlikeS a b)(fa:a.fit)(fb:b.fit)(n:N):checkV a n=checkV b n:=by
 unfold checkV;rw [if_pos h.ok1,if_pos h.ok2,alike_bad h fa fb n,show ((a.kinds[0]?).getD k0).name=((b.kinds[0]?).getD k0).name from h.top]
set_option maxRecDepth 20000 in
set_option maxHeartbeats 4000000 in
theorem v8 (a b:Sc)(n:N)(ha:a.wide)(hb:b.wide)(hn:n.small):Fun Tryz.prog tab2 8 [a.av,b.av,n.av] [] (vB true) []:=by
 have ca:=v23 tab2 a (fun k hk=>(ha.1 k hk).2.2.1) ha.2.1 ha.2.2.1;have cb:=v23 tab2 b (fun k hk=>(hb.1 k hk).2.2.1) hb.2.1 hb.2.2.1;have c24:=f36 tab2 n 1500 hn (by decide) (by decide);refine fun_of (T:=T7) (n:=44) (rs:=[.tmp 6]) Tryz.func8 (by kernel_rfl) rfl rfl rfl tok7 mixed (by simp) fun C hC=>?_;refine hC.go [] 60 ?_;simp [Sc.av,Sc.cells,N.av,N.cells];refine hC.call [] v16 (by simp) ?_;refine hC.go [] 60 ?_;simp;refine hC.call [] ca (by simp [Sc.av,Sc.cells]) ?_;refine hC.go [] 60 ?_;simp;refine hC.call [] cb (by simp [Sc.av,Sc.cells]) ?_;cases hla:a.lite9 with
 |false=>
  refine hC.go [] 60 ?_;simp
 |true=>
  cases hlb:b.lite9 with
  |false=>
   refine hC.go [] 60 ?_;simp
  |true=>
   obtain ⟨fa,ka,ma,_⟩:=lite9_fit ha hla;obtain ⟨fb,kb,mb,_⟩:=lite9_fit hb hlb;refine hC.go [] 60 ?_;simp;refine hC.call [] c24 (by simp [N.av,N.cells]) ?_;by_cases hw:n.wt<1500
   ·have hlt:lessB 1500 n.wt=1500-n.wt:=by unfold lessB;rw [if_neg (by omega)]
    rw [hlt];have h0:¬((1500:Int)-n.wt<0):=(by omega);refine hC.go [] 60 ?_;simp [h0];refine hC.call [] (c32 fa fb (by omega)) (by simp [Sc.av,Sc.cells]) ?_;cases hs:a.same b with
    |false=>
     refine hC.go [] 60 ?_;simp
    |true=>
     have hal:=(same_alike a b).1 hs;have c1:=v20 a fa n (by omega);have c2:=v20 b fb n (by omega);rw [←alike_check hal fa fb n] at c2;generalize checkV a n=q at c1 c2;refine hC.go [] 60 ?_;simp;refine hC.drawn (by kernel_rfl) (by simp) ?_;refine hC.go [] 60 ?_;simp;refine hC.call [] c1 (by simp [Sc.av,Sc.cells,N.av,N.cells]) ?_;refine hC.go [] 60 ?_;simp;refine hC.call [] c2 (by simp [Sc.av,Sc.cells,N.av,N.cells]) ?_;refine hC.go [] 60 ?_;simp
   ·have hlt:lessB 1500 n.wt = -1:=by unfold lessB;rw [if_pos (by omega)]
    rw [hlt];refine hC.go [] 60 ?_;simp
end Go.Proofs.D
