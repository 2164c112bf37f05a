/-
  THE LIBRARY: a text cut at a sign, and what it hands back.
-/
import Derived.Test.YtkjfaanenmhlbaaGreatDoorP2
import Derived.Test.YtkjfaanenmhlbaaGreatDoorB3
import Derived.Test.YtkjfaanenmhlbaaGreatDoorShelfC
set_option linter.unusedVariables false
set_option linter.unusedSimpArgs false
namespace Go.Proofs.D
open Go Go.Abs Go.RowKit
theorem fun_strs {P:Program}{Gl:Granted}{g:FuncId}{args:List AV}(l:List ByteArray)(N:Nat)(e9:TypeId)(hfn:∃fng,P.funcs[g]?=some fng∧(fng.name == "runtime.NumGoroutine")=false∧fng.body.isNone=false)(hle:l.length≤N)(hlm:l.length≤9223372036854775807)
 (h:∀(w:World) (F:Nat→Prop) (cargs:List Value),Gl.p w F→cargs.length=args.length→(∀(j:Nat) (x:AV) (c:Value),args[j]?=some x→cargs[j]?=some c→Rep w F (fun _=>.dead) x c)→
   ∃C:Array Value,(∀i (hi:i<l.length),C[i]?=some (.string l[i]))∧Calls P g cargs.toArray w fun e w'=>e = .returned (.slice (some ⟨w.heap.size,0,none⟩) l.length N)∧w'=w.alloc (.cells C e9)):Fun P Gl g args [] (.pv (.ro 1 (l.map fun s=>[.val (.string s)]))) []:=by
 refine ⟨hfn,fun w0 F0 hd0 cargs hg hl hlen hr=>?_⟩;have hd:hd0=fun _=>.dead:=funext fun r=>dead_of hl r;subst hd;obtain ⟨C,hC,hcall⟩:=h w0 F0 cargs hg hlen hr;refine hcall.mono fun e w' he=>?_;obtain ⟨rfl,rfl⟩:=he;have hb:Below w0.heap.size w0 (w0.alloc (.cells C e9)):=(Below.refl _ _).alloc (Nat.le_refl _) _;refine ⟨_,fun k=>F0 k∨k=w0.heap.size,fun _=>.dead,rfl,.pv _ _ ?_,⟨fun k hk=>?_,fun r s k _ h=>h.elim,fun r k h=>h.elim,fun r=>rfl⟩,
  ⟨fun r k h=>h.elim,fun k hk=>?_,fun k hk=>.inl hk,fun i=>.inl rfl,hb.os,hb.tape,hb.output,hb.size,fun k hk _=>hb.block k hk⟩⟩
 ·have hro:=RepP.ro (w:=w0.alloc (.cells C e9)) (F:=fun k=>F0 k∨k=w0.heap.size) 1 (l.map fun s=>[PV.val (.string s)]) (some ⟨w0.heap.size,0,none⟩) N (fun i j=>.string (l.getD i ⟨#[]⟩)) (fun h=>by cases h) (by simpa using hle) (by simpa using hlm) (fun i el hi=>by
   simp only [List.getElem?_map,Option.map_eq_some_iff] at hi;obtain ⟨r,_,rfl⟩:=hi;rfl) (fun _=>⟨_,rfl,rfl,.inr rfl,fun i j el c h5 h6=>by
   simp only [List.getElem?_map,Option.map_eq_some_iff] at h5;obtain ⟨r,h7,rfl⟩:=h5;obtain ⟨hil,hie⟩:=List.getElem?_eq_some_iff.1 h7
   match j,h6 with
   |0,h6=>
    rw [add_plain];refine Eq.trans (cell_at (heap_alloc_new w0 _)) ?_;simp only [Nat.mul_one,Nat.add_zero,Nat.zero_add];rw [hC i hil];simp [List.getD,h7,hie]⟩) (fun i j el c h5 h6=>by
   simp only [List.getElem?_map,Option.map_eq_some_iff] at h5;obtain ⟨r,h7,rfl⟩:=h5
   match j,h6 with
   |0,h6=>
    simp at h6;subst h6;simp [List.getD,h7];exact .val _ rfl)
  simpa using hro
 ·rcases hk with hk|rfl
  ·exact Nat.lt_of_lt_of_le (hl.fin k hk) hb.size
  ·simp
 ·rcases hk with hk|rfl
  ·exact .inl hk
  ·exact .inr (.inl (Nat.le_refl _))
theorem map_bs {l:List ByteArray}{m:List Bs}(h:l.map (·.data.toList)=m):l=m.map bs:=by
 rw [←h,List.map_map];have:(bs ∘ fun x:ByteArray=>x.data.toList)=id:=funext fun x=>bsExt (by simp [bs]);rw [this,List.map_id]
theorem g111 (s:Bs)(c:UInt8)(hs:s.length<4294967281):Fun Tryz.prog tabs 130 [vS (bs s),vS ⟨#[c]⟩] [] (.pv (strs ((splitC c s).map bs))) []:=by
 have hl:Lib.splitB ⟨#[c]⟩ 0 (Lib.countB (bs s) ⟨#[c]⟩) (bs s)=(splitC c s).map bs:=map_bs (by
  rw [Lib.splitB_data,bs_list];exact splitK_one c s)
 have hc:=Lib.countB_le ⟨#[c]⟩ (Nat.le_refl 1) _ (bs s) (Nat.le_refl _);have hsz:(bs s).size=s.length:=bs_size s;have hlen:((splitC c s).map bs).length=Lib.countB (bs s) ⟨#[c]⟩+1:=by rw [←hl];exact Lib.splitB_all ⟨#[c]⟩ (Nat.le_refl 1) 0 _ _ rfl
 refine fun_strs ((splitC c s).map bs) (Lib.countB (bs s) ⟨#[c]⟩+1) 9 ⟨_,Tryz.func130,by kernel_rfl,rfl⟩ (by omega) (by omega) fun w F cargs hg hlen2 hr=>?_
 match cargs,hlen2 with
 |[c0,c1],_=>
  obtain rfl:=bool_of (hr 0 _ c0 rfl rfl);obtain rfl:=bool_of (hr 1 _ c1 rfl rfl);obtain ⟨_,_,_,⟨m,hm⟩,_⟩:=hg;refine ⟨(((splitC c s).map bs).map Value.string).toArray,fun i hi=>by simp at hi;simp [hi],?_⟩;refine (Tryz.strings_Split (bs s) ⟨#[c]⟩ m w (by rw [hsz];exact hs) hm (Nat.le_refl 1)).mono fun e w' ⟨he,hb⟩=>⟨by rw [he,hlen],by rw [hb,hl]⟩
theorem g108 (s:Bs)(c:UInt8)(hs:s.length<4294967281):Fun Tryz.prog tabs 126 [vS (bs s),vS ⟨#[c]⟩,vI 1,vI (-1)] [] (.pv (strs ((afterL c s).map bs))) []:=by
 have hl:Lib.splitB ⟨#[c]⟩ 1 (Lib.countB (bs s) ⟨#[c]⟩) (bs s)=(afterL c s).map bs:=map_bs (by
  rw [Lib.splitB_data,bs_list];rfl)
 have hc:=Lib.countB_le ⟨#[c]⟩ (Nat.le_refl 1) _ (bs s) (Nat.le_refl _);have hsz:(bs s).size=s.length:=bs_size s;have hlen:((afterL c s).map bs).length=Lib.countB (bs s) ⟨#[c]⟩+1:=by rw [←hl];exact Lib.splitB_all ⟨#[c]⟩ (Nat.le_refl 1) 1 _ _ rfl
 refine fun_strs ((afterL c s).map bs) (Lib.countB (bs s) ⟨#[c]⟩+1) 9 ⟨_,Tryz.func126,by kernel_rfl,rfl⟩ (by omega) (by omega) fun w F cargs hg hlen2 hr=>?_
 match cargs,hlen2 with
 |[c0,c1,c2,c3],_=>
  obtain rfl:=bool_of (hr 0 _ c0 rfl rfl);obtain rfl:=bool_of (hr 1 _ c1 rfl rfl);obtain rfl:=bool_of (hr 2 _ c2 rfl rfl);obtain rfl:=bool_of (hr 3 _ c3 rfl rfl);obtain ⟨_,_,_,⟨m,hm⟩,_⟩:=hg;have hcf:Lib.cellsOf ((afterL c s).map bs) (Lib.countB (bs s) ⟨#[c]⟩+1)=(((afterL c s).map bs).map Value.string).toArray:=by rw [←hlen];exact Lib.cellsOf_full _
  refine ⟨(((afterL c s).map bs).map Value.string).toArray,fun i hi=>by simp at hi;simp [hi],?_⟩;refine (Tryz.strings_genSplit (bs s) ⟨#[c]⟩ 1 (-1) (Lib.countB (bs s) ⟨#[c]⟩+1) m w (by rw [hsz];exact hs) hm (Nat.le_refl 1) (Nat.le_refl 1) (by decide) (by decide) (by rw [if_pos (by decide),Int.min_def,if_pos (by omega)];omega)).mono fun e w' ⟨he,hb⟩=>⟨?_,?_⟩
  ·rw [he,Nat.add_sub_cancel,hl,hlen]
  ·rw [hb,Nat.add_sub_cancel,hl,hcf]
theorem g64 (Gl:Granted)(s:Bs)(c:UInt8)(hs:s.length≤9223372036854775807):Fun Tryz.prog Gl 71 [vS (bs s),vS ⟨#[c]⟩] [] (vS (bs (Lib.trimSuffix s [c]))) []:=by
 refine fun_shelf ⟨_,Tryz.func71,by kernel_rfl,rfl⟩ fun w F cargs hg hF hlen hr=>?_
 match cargs,hlen with
 |[c0,c1],_=>
  obtain rfl:=bool_of (hr 0 _ c0 rfl rfl);obtain rfl:=bool_of (hr 1 _ c1 rfl rfl);refine (Tryz.strings_TrimSuffix (bs s) ⟨#[c]⟩ w hs).mono fun e w' ⟨he,hb⟩=>⟨_,he,?_,by rw [hb];exact Below.refl _ _⟩;have:(⟨(Lib.trimSuffix (bs s).data.toList (⟨#[c]⟩:ByteArray).data.toList).toArray⟩:ByteArray)=bs (Lib.trimSuffix s [c]):=by rw [bs_list];rfl
  rw [this];exact .pv _ _ (.val _ rfl)
theorem below_drewN (n:Nat)(w:World):Below w.heap.size w (w.drewN n):={ size:=Nat.le_refl _,block:=fun _ _=>rfl,os:=rfl,tape:=rfl,output:=rfl }
def cutT (s p:Bs):Bs × Bs × Bool:=Lib.cut s p
theorem g110 (s p:Bs)(hs:s.length<4294967281):Fun Tryz.prog tabs 129 [vS (bs s),vS (bs p)] [] (.tup [vS (bs (cutT s p).1),vS (bs (cutT s p).2.1),vB (cutT s p).2.2]) []:=by
 refine fun_shelf ⟨_,Tryz.func129,by kernel_rfl,rfl⟩ fun w F cargs hg hF hlen hr=>?_
 match cargs,hlen with
 |[c0,c1],_=>
  obtain rfl:=bool_of (hr 0 _ c0 rfl rfl);obtain rfl:=bool_of (hr 1 _ c1 rfl rfl);obtain ⟨_,_,_,⟨m,hm⟩,_⟩:=hg;refine (Tryz.strings_Cut (bs s) (bs p) m w hs hm).mono fun e w' ⟨he,n,hb⟩=>⟨_,he,?_,by rw [hb];exact below_drewN n w⟩;rw [bs_list,bs_list];refine .tup _ [.string (bs (cutT s p).1),.string (bs (cutT s p).2.1),.bool (cutT s p).2.2] rfl fun j c v h1 h2=>?_
  match j,h1,h2 with
  |0,h1,h2=>simp at h1 h2;subst h1 h2;exact .pv _ _ (.val _ rfl)
  |1,h1,h2=>simp at h1 h2;subst h1 h2;exact .pv _ _ (.val _ rfl)
  |2,h1,h2=>simp at h1 h2;subst h1 h2;exact .pv _ _ (.val _ rfl)
end Go.Proofs.D
