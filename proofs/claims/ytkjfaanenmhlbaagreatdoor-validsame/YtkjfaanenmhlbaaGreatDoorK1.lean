/-
  strings.Builder.
-/
import Derived.Test.YtkjfaanenmhlbaaGreatDoorZ3
import Derived.Test.YtkjfaanenmhlbaaGreatDoorS0
import Derived.Test.YtkjfaanenmhlbaaGreatDoorDJ
import Derived.Test.YtkjfaanenmhlbaaGreatDoorAbsP
set_option linter.unusedVariables false
set_option linter.unusedSimpArgs false
namespace Go.Proofs.D
open Go Go.Abs Go.RowKit
theorem lays240:Go.Proofs.Lays.n240 Tryz.prog Tryz.lays156_ren:={ Tryz.lays156 with }
abbrev ptr0:AV:=.ptr (.arg 0) 0
abbrev nilPtr:AV:=.pv (.val (.pointer none))
abbrev bldB (ad buf:AV):Blk:=.box 149 [ad,buf]
abbrev bytesB (l:List UInt8):Blk:=.row 5 1 (byteRow l)
theorem setCell_rest (w:World)(a:Addr)(v:Value):(w.setCell a v).os=w.os∧(w.setCell a v).tape=w.tape∧(w.setCell a v).output=w.output∧(w.setCell a v).heap.size=w.heap.size:=⟨rfl,rfl,rfl,by simp [World.setCell]⟩
theorem setCell_at {w:World}{k j:Nat}{v:Value}(h:j≠k):(w.setCell ⟨k,0,none⟩ v).heap[j]?=w.heap[j]?:=by
 simp only [World.setCell,Array.getElem?_modify];rw [if_neg (fun e=>h e.symm)]
theorem setCell_on {w:World}{k:Nat}{v:Value}{c:Array Value}{e:TypeId}{f:Nat × Nat}(h:w.heap[k]?=some (.cells c e f)):(w.setCell ⟨k,0,none⟩ v).heap[k]?=some (.cells (c.setIfInBounds 0 v) e f):=by
 simp [World.setCell,Array.getElem?_modify,h]
theorem f68 (Gl:Granted)(ad:AV)(l:List UInt8)(had:ad=nilPtr∨ad=ptr0):Fun Tryz.prog Gl 132 [ptr0] [some (bldB ad (.own (.arg 1))),some (bytesB l)] (.tup []) [some (bldB ptr0 (.own (.arg 1))),some (bytesB l)]:=by
 refine ⟨⟨_,Tryz.func132,by kernel_rfl,rfl⟩,fun w0 F0 hd0 cargs hg hl hlen hr=>?_⟩
 match cargs,hlen with
 |[c0],_=>
  have h0:=hl.holds (.arg 0);simp [keyed,lkH,Nm.eqb] at h0;obtain ⟨k,arr,p1,p2,p3,p4,p5⟩:=h0;have hc0:c0 = .pointer (some ⟨k,0,none⟩):=by
   have:=hr 0 _ c0 rfl rfl;cases this with
   |ptr _ _ _ _ h=>exact h k p1
  subst hc0;have hlt0:0<arr.size:=by rw [p3];simp
  obtain ⟨z0,ha0⟩:∃z,arr[0]?=some z:=⟨_,Array.getElem?_eq_getElem hlt0⟩;have hrep0:=p4 0 ad z0 rfl ha0;have hcell:w0.cell? ⟨k,0,none⟩=some z0:=by simp [World.cell?,p2,ha0]
  have hleft0:Go.Abs.Left w0 F0 hd0 w0 F0 hd0:=⟨fun r k hk=>.inr ⟨r,hk⟩,fun k hk=>.inl hk,fun k hk=>hk,fun i=>.inl rfl,rfl,rfl,rfl,Nat.le_refl _,fun k _ _=>rfl⟩;rcases had with rfl|rfl
  ·have e0:z0 = .pointer none:=bool_of hrep0;have hkF:∀j,F0 j→j≠k:=fun j hj e=>(hl.mine (.arg 0) k (by rw [p1];exact rfl)).1 (e ▸ hj);rw [e0] at hcell;have hc:=Any.Builder_copyCheck_fresh lays240 Tryz.Builder_Extra_156.toX72 k w0 hcell (by simp [World.shape?,p2,p3];rfl) (by simp [World.frozen?,p2]);refine hc.mono fun e' w' he=>?_;obtain ⟨rfl,rfl⟩:=he;obtain ⟨f1,f2,f3,f4⟩:=setCell_rest w0 ⟨k,0,none⟩ (.pointer (some ⟨k,0,none⟩));have hF:∀j,F0 j→(w0.setCell ⟨k,0,none⟩ (.pointer (some ⟨k,0,none⟩))).heap[j]?=w0.heap[j]?:=fun j hj=>setCell_at (hkF j hj);refine ⟨.tuple #[],F0,hd0,rfl,.tup [] [] rfl (fun j c v h=>by simp at h),⟨fun j hj=>by rw [f4];exact hl.fin j hj,hl.sep,fun r j hj=>by rw [f4];exact hl.mine r j hj,fun r=>?_⟩,⟨fun r j hj=>.inr ⟨r,hj⟩,fun j hj=>.inl hj,fun j hj=>hj,fun i=>.inl rfl,f1,f2,f3,by rw [f4];exact Nat.le_refl _,fun j hj hn=>setCell_at fun e=>hn ⟨.arg 0,by rw [p1,e];exact rfl⟩⟩⟩;by_cases r0:r = .arg 0
   ·subst r0;simp [keyed,lkH,Nm.eqb];refine ⟨k,_,p1,setCell_on p2,by simpa using p3,fun j c v hj hv=>?_,fun v hv=>?_⟩
    ·match j,hj with
     |0,hj=>
      simp at hj;subst hj;simp [Array.getElem?_setIfInBounds] at hv;rw [←hv.2];exact .ptr _ _ _ rfl fun k' hk'=>by rw [p1] at hk';cases hk';rfl
     |1,hj=>
      simp at hj;subst hj;rw [Array.getElem?_setIfInBounds] at hv;simp at hv;exact (p4 1 _ v rfl (by simpa using hv)).mono hF (fun _ h=>h) fun s hs=>.inl rfl
    ·simp only [Array.toList_setIfInBounds] at hv;rcases List.mem_or_eq_of_mem_set hv with h|h
     ·exact p5 v h
     ·subst h;rfl
   ·have h2:=hl.holds r;have h3:lkH (keyed 0 [some (bldB nilPtr (.own (.arg 1))),some (bytesB l)]) r=lkH (keyed 0 [some (bldB ptr0 (.own (.arg 1))),some (bytesB l)]) r:=by
     have e0:(Nm.arg 0).eqb r=false:=by
      cases hh:(Nm.arg 0).eqb r with
      |false=>rfl
      |true=>exact absurd ((Nm.eqb_iff _ _).1 hh).symm r0
     simp only [keyed,lkH,e0,Bool.false_eq_true,if_false]
    rw [h3] at h2;exact h2.mono hF (fun _ h=>h) rfl (fun j hj=>setCell_at fun e=>hl.sep r (.arg 0) k r0 (e ▸ hj) (by rw [p1];exact rfl)) fun c hc s hs=>.inl rfl
  ·have e0:z0 = .pointer (some ⟨k,0,none⟩):=by
    cases hrep0 with
    |ptr _ _ _ _ h=>exact h k p1
   rw [e0] at hcell;refine (Any.Builder_copyCheck_used lays240 Tryz.Builder_Extra_156.toX72 k w0 hcell).mono fun e' w' he=>?_;obtain ⟨rfl,rfl⟩:=he;exact ⟨.tuple #[],F0,hd0,rfl,.tup [] [] rfl (fun j c v h=>by simp at h),hl,hleft0⟩
theorem info5:∃iF,Tryz.prog.info? 5=some iF∧iF.size=1∧iF.bytes=1∧iF.zero=some (.int .u8 0):=by
 have h:(Tryz.prog.info? 5).map (fun i=>(i.size,i.bytes,i.zero))=some (1,1,some (.int .u8 0)):=by kernel_rfl
 cases hi:Tryz.prog.info? 5 with
 |none=>rw [hi] at h;cases h
 |some i=>
  rw [hi] at h;simp only [Option.map_some,Option.some.injEq,Prod.mk.injEq] at h;exact ⟨i,rfl,h.1,h.2.1,h.2.2⟩
abbrev nilErr:AV:=.pv (.val .nilIface)
set_option maxRecDepth 20000 in
theorem f38 (Gl:Granted)(ad:AV)(l:List UInt8)(s:ByteArray)(had:ad=nilPtr∨ad=ptr0)(hlen:l.length+s.size≤140737488355328) :
 FunO Tryz.prog Gl 74 [ptr0,vS s] [some (bldB ad (.own (.arg 1))),some (bytesB l)] (.tup [vI s.size,nilErr]) [some (bldB ptr0 (.own (.out 0))),none] [bytesB (l++s.data.toList)]:=by
 refine funO_of (T:=T3) (n:=19) (rs:=[.tmp 4,.tmp 5]) Tryz.func74 (by kernel_rfl) rfl rfl rfl tok3 mixed (by simp) fun C hC=>?_;refine hC.vc [] 60 ?_;simp;refine hC.call [.arg 0,.arg 1] (f68 Gl ad l had) (by rcases had with rfl|rfl<;>simp) ?_;refine hC.vc [] 60 ?_;simp;refine hC.appStr (r:=.arg 1) (l:=l) (s:=s) (e:=5) info5 rfl rfl rfl rfl rfl (by simp) (by simp) hlen ?_;refine hC.vc [] 11 ?_;simp;refine go_to (M:=⟨[(4,vI s.size),(5,nilErr)],[(.arg 0,some (bldB ptr0 (.own (.out 0)))),(.out 0,some (bytesB (l++s.data.toList)))]⟩) [(.out 0,.nm (.loc 14))] (hC.vc [] 5 (by simp)) (by simp)
theorem f40 (Gl:Granted)(ad:AV)(l:List UInt8)(had:ad=nilPtr∨ad=ptr0):Fun Tryz.prog Gl 77 [ptr0] [some (bldB ad (.own (.arg 1))),some (bytesB l)] (vS ⟨l.toArray⟩) [none,none]:=by
 refine fun_of (T:=T3) (n:=14) (rs:=[.tmp 2]) Tryz.func77 (by kernel_rfl) rfl rfl rfl tok3 mixed (by simp) fun C hC=>?_;by_cases hl:l = []
 ·subst hl;refine hC.vc [] 11 ?_;simp;refine hC.sliceData0 (r:=.arg 1) (e:=5) (e':=5) Tryz.underlying220 rfl rfl rfl (by simp) ?_;refine hC.vc [] 60 ?_;simp;refine hC.unsafeStr0 rfl rfl rfl rfl (by simp) ?_;refine hC.vc [] 2 ?_;simp;exact go_to (M:=⟨[(2,vS ⟨#[]⟩)],[]⟩) [] (hC.vc [] 5 (by simp)) (by simp)
 ·refine hC.vc [] 11 ?_;simp;refine hC.sliceData (r:=.arg 1) (e:=5) (l:=l) hl rfl rfl rfl (by simp) ?_;refine hC.vc [] 60 ?_;simp;refine hC.unsafeStr (r:=.arg 1) (e:=5) (l:=l) hl Tryz.underlying220 (by kernel_rfl) rfl rfl rfl rfl (by simp) ?_;refine hC.vc [] 2 ?_;simp;exact go_to (M:=⟨[(2,vS ⟨l.toArray⟩)],[]⟩) [] (hC.vc [] 5 (by simp)) (by simp)
end Go.Proofs.D
