/-
  WHETHER AN EXPRESSION MEANS A ROW.
-/
import Derived.Test.YtkjfaanenmhlbaaGreatDoorZ0
import Derived.Test.YtkjfaanenmhlbaaGreatDoorL6
import Derived.Test.YtkjfaanenmhlbaaGreatDoorD16
set_option linter.unusedVariables false
set_option linter.unusedSimpArgs false
namespace Go.Proofs.D
open Go Go.Abs
theorem f34 (Gl:Granted)(N:Nat)(hN:N+1<maxLen)(w:Row)(hw:w.length=N)(e:E)(hok:e.ok=true)(S:Nat→Prop)(hS:∀i,S i→i≤N) :
 Fun Tryz.prog Gl 63 [e.av,rowAV w,.rom (Q N S)] [] (.rom (Q N (stepP e.L w S))) []:=by
 have hk:¬e.op=110→∀k∈e.kids,∀S,(∀i,S i→i≤N)→Fun Tryz.prog Gl 63 [k.av,rowAV w,.rom (Q N S)] [] (.rom (Q N (stepP k.L w S))) []:=fun hop k hk S hS=>f34 Gl N hN w hw k (E.ok_kids hok hop k hk).1 S hS;have hL:∀p:Row→Prop,(∀v,e.L v=p v)→e.L=p:=fun p h=>funext h;rcases E.ok_ops hok with ⟨h1,h2⟩|⟨h1,h2,h3⟩|⟨h1,h2,h3⟩|⟨h1,h2,k,h3,h4⟩
 ·rw [hL (fun v=>v = [e.name]) fun v=>by rw [L_eq,if_pos h1]];exact f34_name Gl N hN w hw e h1 S
 ·rw [hL (E.L.seqL e.kids) fun v=>by rw [L_eq,if_neg (by omega),if_pos h1]];exact f34_seq Gl N hN w hw e h1 S hS (hk (by omega))
 ·rw [hL (E.L.altL e.kids) fun v=>by rw [L_eq,if_neg (by omega),if_neg (by omega),if_pos h1]];exact f34_alt Gl N hN w hw e h1 S hS (hk (by omega))
 ·by_cases h63:e.op=63
  ·rw [hL (fun v=>v = []∨k.L v) fun v=>by rw [L_eq,if_neg (by omega),if_neg (by omega),if_neg (by omega),if_pos h63,h3];rfl];have:=f34_opt Gl N hN w hw e h63 k h3 S hS (hk (by omega));have e1:(fun j=>S j∨stepP k.L w S j)=stepP (fun v=>v = []∨k.L v) w S:=by
    funext j;apply propext;rw [stepP_or,stepP_nil fun i hi=>hw ▸ hS i hi]
   rwa [e1] at this
  ·rw [hL (fun v=>(e.op=42∧v = [])∨Many k.L v) fun v=>by rw [L_eq,if_neg (by omega),if_neg (by omega),if_neg (by omega),if_neg h63,h3];rfl];have:=f34_rep Gl N hN w hw e (by omega) k h3 S hS (hk (by omega));have e1:(fun j=>(e.op=42∧S j)∨stepP (Many k.L) w S j)=stepP (fun v=>(e.op=42∧v = [])∨Many k.L v) w S:=by
    funext j;apply propext;rw [stepP_or];refine or_congr ?_ Iff.rfl;by_cases h42:e.op=42
    ·simp only [h42,true_and];rw [stepP_nil fun i hi=>hw ▸ hS i hi]
    ·simp only [h42,false_and,false_iff]
     rintro ⟨_,_,_,_,h⟩
     exact h
   rwa [e1] at this
termination_by SizeOf.sizeOf e
decreasing_by exact E.kids_lt hk
open Classical in
noncomputable def E.has (e:E)(w:Row):Bool:=e.right&&decide (e.L w)
set_option maxRecDepth 20000 in
theorem f20 (Gl:Granted)(e:E)(hs:e.small)(w:Row)(hw:w.length+1<maxLen):Fun Tryz.prog Gl 30 [e.av,rowAV w] [] (vB (e.has w)) []:=by
 refine fun_of (T:=T) (n:=18) (rs:=[.tmp 4]) Tryz.func30 (by kernel_rfl) rfl rfl rfl tok mixed (by simp) fun C hC=>?_;refine hC.vc [] 60 ?_;simp [E.av,E.cells];refine hC.call [] (f18 Gl e hs) (by simp [E.av,E.cells]) ?_;refine hC.vc [] 60 ?_;cases hr:e.right with
 |false=>simp [E.has,hr]
 |true=>
  have hok:e.ok=true:=by simp [E.right] at hr;exact hr.2
  simp;refine hC.makeSet 3 3 w.length (by rfl) (by rfl) (by simp) ?_;refine hC.vc [] 60 ?_;simp;refine hC.setPut im66 (.loc 10) (N:=w.length) (j:=0) (S:=fun _=>False) hw (Nat.zero_le _) (.inr (by rfl)) (by simp) ?_;refine hC.vc [] 60 ?_;simp;have hS:∀i,(fun i=>False∨i=0) i→i≤w.length:=fun i hi=>by simp at hi;omega
  refine hC.call [.loc 10] (fun_own (a:=[e.av,rowAV w]) (b:=[]) (by simp [E.av,E.cells,AV.ments,AV.ments.mentsL]) rfl (f34 Gl w.length hw w rfl e hok _ hS)) (by simp [E.av,E.cells]) ?_;refine hC.vc [] 60 ?_;simp;refine hC.setHas im66 (N:=w.length) (j:=w.length) (S:=stepP e.L w fun i=>False∨i=0) (by simp only [maxLen] at hw;omega) (by rfl) (by simp) ?_;refine hC.vc [] 60 ?_;have hseg:seg w 0 w.length=w:=by simp [seg]
  have hiff:stepP e.L w (fun i=>False∨i=0) w.length↔e.L w:=by
   constructor
   ·rintro ⟨_,i,hi,_,h⟩
    simp at hi;subst hi
    rwa [hseg] at h
   ·intro h;exact ⟨Nat.le_refl _,0,.inr rfl,Nat.zero_le _,by rwa [hseg]⟩
  by_cases h:e.L w
  ·have h':=hiff.2 h;simp at h';simp [h',E.has,hr,h]
  ·have h':¬_:=fun x=>h (hiff.1 x);simp at h';simp [h',E.has,hr,h]
end Go.Proofs.D
