/-
  SCHEMAS: how one is written, byte by byte.
-/
import Derived.Test.YtkjfaanenmhlbaaGreatDoorS5
import Derived.Test.YtkjfaanenmhlbaaGreatDoorB3
import Derived.Test.YtkjfaanenmhlbaaGreatDoorL6
import Derived.Test.YtkjfaanenmhlbaaGreatDoorZ4
import Derived.Test.YtkjfaanenmhlbaaGreatDoorP4
import Derived.Test.YtkjfaanenmhlbaaGreatDoorD32
import Derived.Test.YtkjfaanenmhlbaaGreatDoorD16
import Derived.Test.YtkjfaanenmhlbaaGreatDoorAbsR
set_option linter.unusedVariables false
set_option linter.unusedSimpArgs false
namespace Go.Proofs.D
open Go Go.Abs Go.RowKit
def nodeS:Bs:=[110,111,100,101,32]
def markS:Bs:=[109,97,114,107,32]
def joinV (l:List ByteArray):Bs:=sepBy 124 (l.map (·.data.toList))
def valsB (l:List ByteArray):Bs:=if joinV l = [] then [42] else joinV l
def declB (d:Dc):Bs:=32::d.name.data.toList++61::valsB d.vals
def E.bytes (e:E):Bs:=e.print.1.data.toList
def headB (k:Kd):Bs:=nodeS++k.name.data.toList
def lineK (k:Kd):Bs:=headB k++(k.attrs.flatMap declB++(58::32::k.content.bytes++[10]))
def lineM (m:ByteArray):Bs:=markS++m.data.toList++[10]
def Sc.bytes (s:Sc):Bs:=s.kinds.flatMap lineK++s.marks.flatMap lineM
def Sc.print (s:Sc):ByteArray × Int:=if s.ok=true then (bs s.bytes,0) else (⟨#[]⟩,2)
theorem flat_takeB {α:Type}(f:α→Bs){l:List α}{i:Nat}(h:i<l.length):(l.take (i+1)).flatMap f=(l.take i).flatMap f++f l[i]:=by
 rw [List.take_add_one,List.getElem?_eq_getElem h,List.flatMap_append];simp
theorem flat_le {α:Type}(f:α→Bs){l:List α}{i:Nat}(h:i<l.length):((l.take i).flatMap f).length+(f l[i]).length≤(l.flatMap f).length:=by
 have h1:l.flatMap f=(l.take (i+1)).flatMap f++(l.drop (i+1)).flatMap f:=by rw [←List.flatMap_append,List.take_append_drop]
 rw [h1,flat_takeB f h,List.length_append,List.length_append];omega
theorem kinds_ok (s:Sc):∀(l:List Kd) (i:Nat),kindsFrom s i l=true→∀k∈l,k.ok s=true
 |[],_,_,k,hk=>by cases hk
 |x::l,i,h,k,hk=>by
  simp only [kindsFrom,Bool.and_eq_true] at h;rcases List.mem_cons.1 hk with rfl|hk
  ·exact h.1.2
  ·exact kinds_ok s l _ h.2 k hk
theorem Sc.ok_kind {s:Sc}(h:s.ok=true){k:Kd}(hk:k∈s.kinds):k.ok s=true:=by
 simp only [Sc.ok,Bool.and_eq_true] at h;exact kinds_ok s _ _ h.1 k hk
theorem Kd.ok_attr {k:Kd}{s:Sc}(h:k.ok s=true){d:Dc}(hd:d∈k.attrs):d.ok=true:=by
 simp only [Kd.ok,Bool.and_eq_true] at h;exact List.all_eq_true.1 h.1 d hd
theorem Dc.ok_len {d:Dc}(h:d.ok=true):d.vals.length≤6:=by
 simp only [Dc.ok,Bool.and_eq_true,decide_eq_true_eq] at h;omega
theorem Sc.ok_kinds {s:Sc}(h:s.ok=true):0<s.kinds.length∧s.kinds.length≤12∧s.marks.length≤12∧rise s.marks=true:=by
 simp only [Sc.ok,Bool.and_eq_true,decide_eq_true_eq] at h;exact ⟨by omega,by omega,by omega,h.2.2.2.2⟩
end Go.Proofs.D
namespace Go.Proofs.D
open Go Go.Abs Go.RowKit
def Dc.wide (d:Dc):Prop:=d.name.size≤M47∧d.vals.length≤M47∧∀v∈d.vals,v.size≤M47
def Kd.wide (k:Kd):Prop:=k.name.size≤M47∧k.content.small∧k.attrs.length≤M47∧∀d∈k.attrs,d.wide
def Sc.wide (s:Sc):Prop:=(∀k∈s.kinds,k.wide)∧s.kinds.length≤M47∧s.marks.length≤M47∧∀m∈s.marks,m.size≤M47
theorem kind_names {k:Kd}{s:Sc}(h:k.ok s=true):isName k.name=true∧(∀d∈k.attrs,isName d.name=true∧d.ok=true)∧k.content.right=true:=by
 simp only [Kd.ok,Bool.and_eq_true,List.all_eq_true] at h;refine ⟨h.2.1,fun d hd=>⟨rise_names _ _ h.2.2.1 d.name (List.mem_map_of_mem hd),h.1 d hd⟩,h.2.2.2.1⟩
def E.few:E→Int→Int
 |.mk _ _ k,left=>go k (wr .i64 (left-1))
where go:List E→Int→Int
 |[],l=>l
 |x::m,l=>if 0<l then go m (x.few l) else l
theorem few_eq (e:E)(left:Int):e.few left=E.few.go e.kids (wr .i64 (left-1)):=by
 obtain ⟨o,n,k⟩:=e;simp only [E.few,E.kids]
mutual
theorem few_cnt:∀(e:E) (l:Int),0<l→l≤600→0≤e.few l∧e.few l≤l-1∧(0<e.few l→(e.cnt:Int)=l-e.few l)
 |.mk o n k,l,h0,h1=>by
  have hw:=wr64 (l-1) (by omega);simp only [E.few,hw];obtain ⟨a,b,c⟩:=fews_cnt k (l-1) (by omega) (by omega);refine ⟨a,by omega,fun h=>?_⟩;have:=c h;simp only [E.cnt];omega
theorem fews_cnt:∀(k:List E) (l:Int),0≤l→l≤600→0≤E.few.go k l∧E.few.go k l≤l∧(0<E.few.go k l→(E.cnt.go k:Int)=l-E.few.go k l)
 |[],l,h0,h1=>by simp [E.few.go,E.cnt.go,h0]
 |x::m,l,h0,h1=>by
  simp only [E.few.go];by_cases hp:0<l
  ·rw [if_pos hp];obtain ⟨a,b,c⟩:=few_cnt x l hp h1;obtain ⟨a',b',c'⟩:=fews_cnt m (x.few l) a (by omega);refine ⟨a',by omega,fun h=>?_⟩;have h1:=c' h;have h2:=c (by omega);simp only [E.cnt.go];omega
  ·rw [if_neg hp];refine ⟨h0,Int.le_refl _,fun h=>absurd h hp⟩
end
def kindsFew:List Kd→Int→Int
 |[],l=>l
 |k::r,l=>if 0<l then kindsFew r (wr .i64 (k.content.few l-k.attrs.length)) else l
def Sc.lite9 (s:Sc):Bool:=decide (0<kindsFew s.kinds 600)&&(decide ((s.kinds.length:Int)<40)&&decide ((s.marks.length:Int)<40))
theorem kindsFew_pos:∀(ks:List Kd) (l:Int),(∀k∈ks,k.attrs.length≤M47)→l≤600→0<kindsFew ks l→∀k∈ks,k.content.cnt≤600∧k.attrs.length≤600
 |[],l,_,_,_,k,hk=>by cases hk
 |x::r,l,hw,hl,h,k,hk=>by
  simp only [kindsFew] at h;by_cases h0:0<l
  ·rw [if_pos h0] at h;have hx:=hw x (by simp);simp only [M47] at hx;obtain ⟨a,b,c⟩:=few_cnt x.content l h0 hl;have e1:=wr64 (x.content.few l-x.attrs.length) (by omega);rw [e1] at h;have hp:0<x.content.few l-x.attrs.length:=by
    cases r with
    |nil=>simpa [kindsFew] using h
    |cons y r=>
     simp only [kindsFew] at h;by_cases h2:0<x.content.few l-x.attrs.length
     ·exact h2
     ·rw [if_neg h2] at h;exact h
   have hc:=c (by omega);rcases List.mem_cons.1 hk with rfl|hk
   ·omega
   ·exact kindsFew_pos r _ (fun y hy=>hw y (by simp [hy])) (by omega) h k hk
  ·rw [if_neg h0] at h;omega
end Go.Proofs.D
namespace Go.Proofs.D
open Go Go.Abs Go.RowKit
set_option maxRecDepth 20000 in
set_option maxHeartbeats 4000000 in
theorem g19 (Gl:Granted)(s:Sc)(hf:s.fit)(hw:s.ok=true→s.bytes.length≤1000000000):Fun Tryz.prog Gl 37 [s.av] [] (.tup [vS s.print.1,vI s.print.2]) []:=by
 refine fun_of (T:=T4) (n:=72) (rs:=[.tmp 2,.tmp 3]) Tryz.func37 (by kernel_rfl) rfl rfl rfl tok4 mixed (by simp) fun C hC=>?_;refine hC.vc [] 60 ?_;simp [Sc.av,Sc.cells];refine hC.call [] (g23 Gl s hf) (by simp [Sc.av,Sc.cells]) ?_;cases hok:s.ok with
 |false=>
  have hp:s.print=(⟨#[]⟩,2):=by rw [Sc.print,hok];rfl
  rw [hp] at hC;refine hC.vc [] 60 ?_;simp
 |true=>
  have hp:s.print=(bs s.bytes,0):=by rw [Sc.print,hok];rfl
  rw [hp] at hC;obtain ⟨n1,n2,n3,_⟩:=Sc.ok_kinds hok;have hlenB:(s.kinds.flatMap lineK).length+(s.marks.flatMap lineM).length≤1000000000:=by
   rw [←List.length_append];exact hw hok
  refine hC.vc [] 60 ?_;simp;refine go_loop (ι:={x:Nat × Bool // x.1≤s.kinds.length}) (fun x=>⟨[(1,.ptr (.loc 1) 0),(4,.ptr (.loc 4) 0),(18,.pv (kds s.kinds)),(19,vI s.kinds.length),(20,vI x.1.1)],
   [(.loc 1,some (.box 25 s.cells)),(.loc 4,some (bldB (adOf (.loc 4) x.1.2) (.own (.can 0)))),(.can 0,some (bytesB ((s.kinds.take x.1.1).flatMap lineK)))]⟩)
   (fun x=>s.kinds.length-x.1.1) ⟨(0,false),by simp⟩ [(.can 0,.nil)] (by simp [adOf,Sc.cells]) fun x ih=>?_
  obtain ⟨⟨i,ad⟩,hi⟩:=x;simp only at hi ih;refine hC.vc [] 60 ?_;rcases Bool.eq_false_or_eq_true ad with hA|hA
  all_goals
  by_cases hlt:i<s.kinds.length
  ·have hw1:=wr64 ((i:Int)+1) (by omega);obtain ⟨k,hk⟩:∃k,s.kinds[i]=k:=⟨_,rfl⟩;have hkm:k∈s.kinds:=(by rw [←hk];simp);have hkf:=hf.1 k hkm;obtain ⟨f1,f2,f3,f4,f5⟩:=hkf;have hkok:=Sc.ok_kind hok hkm;have hle:=flat_le lineK hlt;have htk:=flat_takeB lineK hlt;rw [hk] at hle htk;have hlk:(lineK k).length=(headB k).length+((k.attrs.flatMap declB).length+(k.content.bytes.length+3)):=by
    simp only [lineK,List.length_append,List.length_cons,List.length_nil]
   have hhd:(⟨#[110,111,100,101,32]⟩:ByteArray)++k.name=bs (headB k):=bsExt (by simp [headB,nodeS,bs,ByteArray.data_append]);have hhl:(bs (headB k)).size=(headB k).length:=rfl;generalize hP:(s.kinds.take i).flatMap lineK=P at hle htk;have hlH:(headB k).length=5+k.name.size:=by
    have e:k.name.data.toList.length=k.name.size:=Array.length_toList;simp [headB,nodeS,e];omega
   have g5:(⟨#[110,111,100,101,32]⟩:ByteArray).size=5:=rfl;simp [hlt,hA,adOf,Sc.cells,Kd.pv_eq,E.pv_eq,hk,hP,hhd,g5];refine ⟨by omega,?_⟩;refine hC.callO [.loc 4,.can 0] [.can 2] (f38 Gl (adOf (.arg 0) ad) P (bs (headB k)) (adOf_or ad) (by rw [hhl];omega)) (by simp [hA,adOf]) ?_;rw [bs_list];refine hC.vc [] 60 ?_;simp;refine go_loop (ι:={j:Nat // j≤k.attrs.length}) (fun x=>⟨[(1,.ptr (.loc 1) 0),(4,.ptr (.loc 4) 0),(6,.ptr (.loc 6) 0),(18,.pv (kds s.kinds)),(19,vI s.kinds.length),(20,vI i),(29,.pv (dcs k.attrs)),(30,vI k.attrs.length),(31,vI x.1)],
    [(.loc 1,some (.box 25 s.cells)),(.loc 6,some (.box 66 k.cells)),(.loc 4,some (bldB (.ptr (.loc 4) 0) (.own (.can 0)))),(.can 0,some (bytesB (P++headB k++(k.attrs.take x.1).flatMap declB)))]⟩)
    (fun x=>k.attrs.length-x.1) ⟨0,by simp⟩ [(.can 0,.nm (.can 2))] (by simp [Sc.cells,Kd.cells,E.cells]) fun x ih2=>?_
   obtain ⟨j,hj⟩:=x;simp only at hj ih2;refine hC.vc [] 60 ?_;by_cases hlj:j<k.attrs.length
   ·have hw2:=wr64 ((j:Int)+1) (by omega);obtain ⟨d,hd⟩:∃d,k.attrs[j]=d:=⟨_,rfl⟩;have hdm:d∈k.attrs:=(by rw [←hd];simp);have hdl:=Dc.ok_len (Kd.ok_attr hkok hdm);have hle2:=flat_le declB hlj;have htk2:=flat_takeB declB hlj;rw [hd] at hle2 htk2;generalize (k.attrs.take j).flatMap declB=Q at hle2 htk2 ⊢;have hjb:joinB d.vals ⟨#[124]⟩=bs (joinV d.vals):=joinB_bs d.vals 124;have hld:(declB d).length=d.name.size+2+(valsB d.vals).length:=by
     have e:d.name.data.toList.length=d.name.size:=Array.length_toList;simp [declB,e];omega
    have hjl:(joinV d.vals).length≤(valsB d.vals).length:=by
     unfold valsB;split
     ·rename_i h;rw [h];simp
     ·exact Nat.le_refl _
    have hbl:(bs (joinV d.vals)).size=(joinV d.vals).length:=rfl;simp [hlj,hd,Sc.cells,Kd.cells,E.cells];refine hC.call [] (f39 Gl d.vals ⟨#[124]⟩ (by omega) (by rw [hjb,hbl];omega)) (by simp) ?_;rw [hjb];have g1:(⟨#[32]⟩:ByteArray).size=1:=rfl;have g2:(⟨#[61]⟩:ByteArray).size=1:=rfl;by_cases he:joinV d.vals = []
    ·have hv:valsB d.vals = [42]:=(by rw [valsB,if_pos he]);have hb0:bs (joinV d.vals)=⟨#[]⟩:=(by rw [he];rfl);have hfin:(⟨#[32]⟩:ByteArray)++d.name++⟨#[61]⟩++⟨#[42]⟩=bs (declB d):=bsExt (by simp [declB,hv,bs,ByteArray.data_append]);have hfl:(bs (declB d)).size=(declB d).length:=rfl;have g3:(⟨#[42]⟩:ByteArray).size=1:=rfl;rw [hb0];refine hC.vc [] 60 ?_;simp [hfin,g1,g2,g3,ByteArray.size_append];refine ⟨by omega,by omega,by omega,?_⟩;refine hC.callO [.loc 4,.can 0] [.can 2] (f38 Gl ptr0 (P++headB k++Q) (bs (declB d)) (.inr rfl) (by rw [hfl];simp only [List.length_append];omega)) (by simp) ?_;rw [bs_list];refine hC.vc [] 60 ?_;simp;exact go_to [(.can 0,.nm (.can 2))] (ih2 ⟨j+1,hlj⟩ (by simp;omega)) (by simp [hw2,Sc.cells,Kd.cells,E.cells,htk2,List.append_assoc])
    ·have hv:valsB d.vals=joinV d.vals:=(by rw [valsB,if_neg he]);have hb0:¬bs (joinV d.vals)=⟨#[]⟩:=fun h=>he (by rw [←bs_list (joinV d.vals),h]);have hfin:(⟨#[32]⟩:ByteArray)++d.name++⟨#[61]⟩++bs (joinV d.vals)=bs (declB d):=bsExt (by simp [declB,hv,bs,ByteArray.data_append]);have hfl:(bs (declB d)).size=(declB d).length:=rfl;refine hC.vc [] 60 ?_;simp [hfin,g1,g2,hb0,hbl,ByteArray.size_append];refine ⟨by omega,by omega,by omega,?_⟩;refine hC.callO [.loc 4,.can 0] [.can 2] (f38 Gl ptr0 (P++headB k++Q) (bs (declB d)) (.inr rfl) (by rw [hfl];simp only [List.length_append];omega)) (by simp) ?_;rw [bs_list];refine hC.vc [] 60 ?_;simp;exact go_to [(.can 0,.nm (.can 2))] (ih2 ⟨j+1,hlj⟩ (by simp;omega)) (by simp [hw2,Sc.cells,Kd.cells,E.cells,htk2,List.append_assoc])
   ·have htj:k.attrs.take j=k.attrs:=List.take_of_length_le (by omega);have hfin:(⟨#[58,32]⟩:ByteArray)++k.content.print.1++⟨#[10]⟩=bs (58::32::k.content.bytes++[10]):=bsExt (by simp [E.bytes,bs,ByteArray.data_append]);have hfl:(bs (58::32::k.content.bytes++[10])).size=k.content.bytes.length+3:=(by rw [bs_size];simp);have hcb:k.content.print.1.size=k.content.bytes.length:=Array.length_toList.symm;have g1:(⟨#[58,32]⟩:ByteArray).size=2:=rfl;have g2:(⟨#[10]⟩:ByteArray).size=1:=rfl;have htk':(s.kinds.take (i+1)).flatMap lineK=P++(headB k++(k.attrs.flatMap declB++(58::32::k.content.bytes++[10]))):=(by rw [htk];rfl);rw [htj];generalize k.attrs.flatMap declB=Q at hlk htk' ⊢;simp [hlj,Sc.cells,Kd.cells,E.cells];refine hC.call [] (f17 Gl k.content f2 (by omega)) (by simp [E.av,E.cells]) ?_;refine hC.vc [] 60 ?_;simp [hfin,g1,g2,hcb,ByteArray.size_append];refine ⟨by omega,by omega,?_⟩;refine hC.callO [.loc 4,.can 0] [.can 2] (f38 Gl ptr0 (P++headB k++Q) (bs (58::32::k.content.bytes++[10])) (.inr rfl) (by rw [hfl];simp only [List.length_append];omega)) (by simp) ?_;rw [bs_list];refine hC.vc [] 60 ?_;simp;exact go_to [(.can 0,.nm (.can 2))] (ih ⟨(i+1,true),hlt⟩ (by simp;omega)) (by simp [hw1,adOf,Sc.cells,htk',List.append_assoc])
  ·have hti:s.kinds.take i=s.kinds:=List.take_of_length_le (by omega);rw [hti];have hsb:s.bytes=s.kinds.flatMap lineK++s.marks.flatMap lineM:=rfl;generalize s.kinds.flatMap lineK=K at hlenB hsb ⊢;simp [hlt,hA,adOf,Sc.cells];refine go_loop (ι:={x:Nat × Bool // x.1≤s.marks.length}) (fun x=>⟨[(4,.ptr (.loc 4) 0),(60,.pv (strs s.marks)),(61,vI s.marks.length),(62,vI x.1.1)],
    [(.loc 4,some (bldB (adOf (.loc 4) x.1.2) (.own (.can 0)))),(.can 0,some (bytesB (K++(s.marks.take x.1.1).flatMap lineM)))]⟩)
    (fun x=>s.marks.length-x.1.1) ⟨(0,ad),by simp⟩ [] (by simp [hA,adOf]) fun x ih2=>?_
   obtain ⟨⟨j,ad2⟩,hj⟩:=x;simp only at hj ih2;refine hC.vc [] 60 ?_;rcases Bool.eq_false_or_eq_true ad2 with hA2|hA2
   all_goals
   by_cases hlj:j<s.marks.length
   ·have hw2:=wr64 ((j:Int)+1) (by omega);obtain ⟨m,hm⟩:∃m,s.marks[j]=m:=⟨_,rfl⟩;have hle2:=flat_le lineM hlj;have htk2:=flat_takeB lineM hlj;rw [hm] at hle2 htk2;generalize (s.marks.take j).flatMap lineM=Q at hle2 htk2 ⊢;have hfin:(⟨#[109,97,114,107,32]⟩:ByteArray)++m++⟨#[10]⟩=bs (lineM m):=bsExt (by simp [lineM,markS,bs,ByteArray.data_append]);have hfl:(bs (lineM m)).size=(lineM m).length:=rfl;have hll:(lineM m).length=m.size+6:=by
     have e:m.data.toList.length=m.size:=Array.length_toList;simp [lineM,markS,e]
    have g1:(⟨#[109,97,114,107,32]⟩:ByteArray).size=5:=rfl;have g2:(⟨#[10]⟩:ByteArray).size=1:=rfl;simp [hlj,hA2,adOf,hm,hfin,g1,g2,ByteArray.size_append];refine ⟨by omega,by omega,?_⟩;refine hC.callO [.loc 4,.can 0] [.can 2] (f38 Gl (adOf (.arg 0) ad2) (K++Q) (bs (lineM m)) (adOf_or ad2) (by rw [hfl];simp only [List.length_append];omega)) (by simp [hA2,adOf]) ?_;rw [bs_list];refine hC.vc [] 60 ?_;simp;exact go_to [(.can 0,.nm (.can 2))] (ih2 ⟨(j+1,true),hlj⟩ (by simp;omega)) (by simp [hw2,adOf,htk2,List.append_assoc])
   ·have htj:s.marks.take j=s.marks:=List.take_of_length_le (by omega);rw [htj,←hsb];simp [hlj,hA2,adOf];refine hC.call [.loc 4,.can 0] (f40 Gl (adOf (.arg 0) ad2) s.bytes (adOf_or ad2)) (by simp [hA2,adOf]) ?_;refine hC.vc [] 60 ?_;simp [bs]
open Go.ChangeShapes Go.WideShapes
section
variable {H:Type} {enc:TypeId × Value→H} {W:World}
theorem cells54:Tryz.prog.cellsOf 63=3:=by kernel_rfl
theorem cells5:Tryz.prog.cellsOf 5=1:=by kernel_rfl
theorem cells52:Tryz.prog.cellsOf 61=1:=by kernel_rfl
theorem cells44:Tryz.prog.cellsOf 70=2:=by kernel_rfl
theorem cells55:Tryz.prog.cellsOf 64=1:=by kernel_rfl
theorem cells57:Tryz.prog.cellsOf 66=5:=by kernel_rfl
theorem cells39:Tryz.prog.cellsOf 22=1:=by kernel_rfl
theorem cellsSc:Tryz.prog.cellsOf 25=2:=by kernel_rfl
theorem cellsStrs:Tryz.prog.cellsOf 23=1:=by kernel_rfl
theorem again5 (n:Nat):Again H enc Tryz.prog n 5:=again_int Tryz.underlying5 n
theorem again54 (n:Nat):Again H enc Tryz.prog n 63:=by
 induction n using Nat.strongRecOn with
 |_ n ih=>
  refine again_struct Tryz.underlying63 n fun m hm i f hf=>?_
  match i,hf with
  |0,hf=>simp at hf;subst hf;exact again5 m
  |1,hf=>simp at hf;subst hf;exact again9 m
  |2,hf=>simp at hf;subst hf;exact again_slice Tryz.underlying61 (by rw [cells54];decide) m fun k hk=>ih k (by omega)
  |i+3,hf=>simp at hf
theorem againD (n:Nat):Again H enc Tryz.prog n 70:=again_struct Tryz.underlying70 n fun m hm i f hf=>by
 match i,hf with
 |0,hf=>simp at hf;subst hf;exact again9 m
 |1,hf=>simp at hf;subst hf;exact again42 m
 |i+2,hf=>simp at hf
theorem againDs (n:Nat):Again H enc Tryz.prog n 64:=again_slice Tryz.underlying64 (by rw [cells44];decide) n fun m _=>againD m
theorem againK (n:Nat):Again H enc Tryz.prog n 66:=again_struct Tryz.underlying66 n fun m hm i f hf=>by
 match i,hf with
 |0,hf=>simp at hf;subst hf;exact again9 m
 |1,hf=>simp at hf;subst hf;exact again54 m
 |2,hf=>simp at hf;subst hf;exact againDs m
 |i+3,hf=>simp at hf
theorem againKs (n:Nat):Again H enc Tryz.prog n 22:=again_slice Tryz.underlying22 (by rw [cells57];decide) n fun m _=>againK m
theorem againSc (n:Nat):Again H enc Tryz.prog n 25:=again_struct Tryz.underlying25 n fun m hm i f hf=>by
 match i,hf with
 |0,hf=>simp at hf;subst hf;exact againKs m
 |1,hf=>simp at hf;subst hf;exact again42 m
 |i+2,hf=>simp at hf
instance:Inhabited E:=⟨.mk 0 ⟨#[]⟩ []⟩
instance:Inhabited Dc:=⟨⟨⟨#[]⟩,[]⟩⟩
instance:Inhabited Kd:=⟨⟨⟨#[]⟩,default,[]⟩⟩
theorem slice_len {t e:TypeId}(ht:Tryz.prog.underlying t=some (.slice e))(hb:0<Tryz.prog.bytesOf e){x:DataW H}(hf:Fits t x){n:Nat}(h:x = .nil∧n=0∨∃es sp,x = .slice es sp∧es.length=n):n≤M47:=by
 have e47:M47=140737488355328:=rfl;rcases h with ⟨_,rfl⟩|⟨es,sp,rfl,rfl⟩
 ·omega
 ·have h1:=hf ((es.length+sp.length)*Tryz.prog.bytesOf e) (by simp [DataW.weights,ht]);have h2:=reachBytes_lt;have h3:es.length+sp.length≤(es.length+sp.length)*Tryz.prog.bytesOf e:=Nat.le_mul_of_pos_right _ hb;omega
theorem nil_len {α:Type}{x:DataW H}{l:List α}(h:x = .nil∧l = []∨∃es sp,x = .slice es sp∧es.length=l.length):x = .nil∧l.length=0∨∃es sp,x = .slice es sp∧es.length=l.length:=by
 rcases h with ⟨h1,rfl⟩|h
 ·exact .inl ⟨h1,rfl⟩
 ·exact .inr h
set_option maxRecDepth 20000 in
theorem readsSs (n:Nat)(cs:List Value)(x:DataW H × List MemPlace)(h:DataW.trod enc Tryz.prog W 0 (fun _=>true) true n 23 cs=some x)(hf:Fits 23 x.1):∃(l:List ByteArray) (v:Value),cs = [v]∧(l.length≤M47∧∀s∈l,s.size≤M47)∧RepP W (allOf W) (strs l) v:=by
 obtain ⟨l,v,h1,h2,h3,h4⟩:=reads_sliceG (e:=9) (sz:=1) Tryz.underlying23 cells9 (by decide) (fun s:ByteArray=>[.val (.string s)]) (fun s=>s.size≤M47) (Fits 9) n (fun m _ cs x hx hfx=>by
  obtain ⟨s,rfl,hs⟩:=str_fits hx hfx;refine ⟨s,hs,rfl,fun j c v h3 h4=>?_⟩
  match j,h3,h4 with
  |0,h3,h4=>simp at h3 h4;subst h3 h4;exact .val _ rfl) cs x h (hoe_of Tryz.underlying23 hf)
 exact ⟨l,v,h1,⟨slice_len Tryz.underlying23 (of_decide_eq_true (by kernel_rfl)) hf (nil_len h4),h2⟩,h3⟩
theorem pv_len (e:E):e.pv.length=3:=by rw [E.pv_eq];rfl
set_option maxRecDepth 20000 in
theorem reads54 (n:Nat):∀(cs:List Value) (x:DataW H × List MemPlace),DataW.trod enc Tryz.prog W 0 (fun _=>true) true n 63 cs=some x→
 ∃e:E,e.small∧cs.length=3∧∀(j:Nat) (c:PV) (v:Value),e.pv[j]?=some c→cs[j]?=some v→RepP W (allOf W) c v:=by
 induction n using Nat.strongRecOn with
 |_ n ih=>
  intro cs x h;obtain ⟨xs,m,rfl,rfl,hl,hx,hi⟩:=DataW.trod_struct Tryz.underlying63 h;rw [cells54] at hl
  match cs,hl with
  |[c0,c1,c2],_=>
   have g:∀i,i<3→∃y,xs[i]?=some y:=fun i hi3=>⟨_,List.getElem?_eq_getElem (by rw [hx];exact hi3)⟩;have h0:=hi 0 _ rfl;have h1:=hi 1 _ rfl;have h2:=hi 2 _ rfl;obtain ⟨y0,e0⟩:=g 0 (by decide);obtain ⟨y1,e1⟩:=g 1 (by decide);obtain ⟨y2,e2⟩:=g 2 (by decide);rw [e0] at h0;rw [e1] at h1;rw [e2] at h2
   replace h0:DataW.trod enc Tryz.prog W 0 (fun _=>true) true m 5 [c0]=some y0:=by simpa [cells5] using h0
   replace h1:DataW.trod enc Tryz.prog W 0 (fun _=>true) true m 9 [c1]=some y1:=by simpa [cells9] using h1
   replace h2:DataW.trod enc Tryz.prog W 0 (fun _=>true) true m 61 [c2]=some y2:=by simpa [cells52] using h2
   obtain ⟨op,q0,_,_⟩:=DataW.trod_int Tryz.underlying5 h0;obtain ⟨s,q1,hs⟩:=str_of h1;obtain ⟨l,v,q2,hsm,hr,_⟩:=reads_slice (e:=63) (sz:=3) Tryz.underlying61 cells54 (by decide) E.pv E.small m (fun k hk cs x hx=>by
    obtain ⟨e,a1,a2,a3⟩:=ih k (by omega) cs x hx;exact ⟨e,a1,pv_len e,a3⟩) _ _ h2
   obtain rfl:c0 = .int .u8 op:=by simpa using q0
   obtain rfl:c1 = .string s:=by simpa using q1
   obtain rfl:c2=v:=by simpa using q2
   refine ⟨.mk op s l,E.small_mk (Nat.le_trans hs (by decide)) hsm,rfl,fun j c v h3 h4=>?_⟩;rw [E.pv_eq] at h3
   match j,h3,h4 with
   |0,h3,h4=>simp at h3 h4;subst h3 h4;exact .val _ rfl
   |1,h3,h4=>simp at h3 h4;subst h3 h4;exact .val _ rfl
   |2,h3,h4=>simp at h3 h4;subst h3 h4;exact hr
set_option maxRecDepth 20000 in
theorem readsD (n:Nat)(cs:List Value)(x:DataW H × List MemPlace)(h:DataW.trod enc Tryz.prog W 0 (fun _=>true) true n 70 cs=some x)(hf:Fits 70 x.1) :
 ∃d:Dc,d.wide∧d.pv.length=2∧cs.length=2∧∀(j:Nat) (c:PV) (v:Value),d.pv[j]?=some c→cs[j]?=some v→RepP W (allOf W) c v:=by
 obtain ⟨hl,k,_,hp⟩:=parts_of Tryz.underlying70 h hf;rw [cells44] at hl
 match cs,hl with
 |[a,b],_=>
  obtain ⟨y0,g0,f0⟩:=hp 0 _ rfl;obtain ⟨y1,g1,f1⟩:=hp 1 _ rfl
  replace g0:DataW.trod enc Tryz.prog W 0 (fun _=>true) true k 9 [a]=some y0:=by simpa [cells9] using g0
  replace g1:DataW.trod enc Tryz.prog W 0 (fun _=>true) true k 23 [b]=some y1:=by simpa [cellsStrs] using g1
  obtain ⟨s,q0,s0⟩:=str_fits g0 f0;obtain ⟨l,v1,q1,⟨s1,s2⟩,r1⟩:=readsSs k _ _ g1 f1;cases q0;cases q1;refine ⟨⟨s,l⟩,⟨s0,s1,s2⟩,rfl,rfl,fun j c v h3 h4=>?_⟩
  match j,h3,h4 with
  |0,h3,h4=>simp at h3 h4;subst h3 h4;exact .val _ rfl
  |1,h3,h4=>simp at h3 h4;subst h3 h4;exact r1
set_option maxRecDepth 20000 in
theorem readsDs (n:Nat)(cs:List Value)(x:DataW H × List MemPlace)(h:DataW.trod enc Tryz.prog W 0 (fun _=>true) true n 64 cs=some x)(hf:Fits 64 x.1):∃(l:List Dc) (v:Value),cs = [v]∧(l.length≤M47∧∀d∈l,d.wide)∧RepP W (allOf W) (dcs l) v:=by
 obtain ⟨l,v,h1,h2,h3,h4⟩:=reads_sliceG (e:=70) (sz:=2) Tryz.underlying64 cells44 (by decide) Dc.pv Dc.wide (Fits 70) n (fun k hk cs x hx hfx=>by
  obtain ⟨d,a1,a2,_,a3⟩:=readsD k cs x hx hfx;exact ⟨d,a1,a2,a3⟩) _ _ h (hoe_of Tryz.underlying64 hf)
 exact ⟨l,v,h1,⟨slice_len Tryz.underlying64 (of_decide_eq_true (by kernel_rfl)) hf (nil_len h4),h2⟩,h3⟩
theorem kpv_len (k:Kd):k.pv.length=5:=by simp only [Kd.pv,E.pv_eq];rfl
set_option maxRecDepth 20000 in
theorem readsK (n:Nat)(cs:List Value)(x:DataW H × List MemPlace)(h:DataW.trod enc Tryz.prog W 0 (fun _=>true) true n 66 cs=some x)(hf:Fits 66 x.1) :
 ∃k:Kd,k.wide∧cs.length=5∧∀(j:Nat) (c:PV) (v:Value),k.pv[j]?=some c→cs[j]?=some v→RepP W (allOf W) c v:=by
 obtain ⟨hl,k,_,hp⟩:=parts_of Tryz.underlying66 h hf;rw [cells57] at hl
 match cs,hl with
 |[a,b0,b1,b2,c],_=>
  obtain ⟨y0,g0,f0⟩:=hp 0 _ rfl;obtain ⟨y1,g1,f1⟩:=hp 1 _ rfl;obtain ⟨y2,g2,f2⟩:=hp 2 _ rfl
  replace g0:DataW.trod enc Tryz.prog W 0 (fun _=>true) true k 9 [a]=some y0:=by simpa [cells9] using g0
  replace g1:DataW.trod enc Tryz.prog W 0 (fun _=>true) true k 63 [b0,b1,b2]=some y1:=by simpa [cells54] using g1
  replace g2:DataW.trod enc Tryz.prog W 0 (fun _=>true) true k 64 [c]=some y2:=by simpa [cells55] using g2
  obtain ⟨s,q0,s0⟩:=str_fits g0 f0;obtain ⟨e,s1,_,r1⟩:=reads54 k _ _ g1;obtain ⟨l,v2,q2,⟨s2,s3⟩,r2⟩:=readsDs k _ _ g2 f2;cases q0;cases q2;refine ⟨⟨s,e,l⟩,⟨s0,s1,s2,s3⟩,rfl,fun j c v h3 h4=>?_⟩;have he:=E.pv_eq e
  match j,h3,h4 with
  |0,h3,h4=>simp [Kd.pv] at h3 h4;subst h3 h4;exact .val _ rfl
  |1,h3,h4=>exact r1 0 c v (by simpa [Kd.pv,he] using h3) (by simpa using h4)
  |2,h3,h4=>exact r1 1 c v (by simpa [Kd.pv,he] using h3) (by simpa using h4)
  |3,h3,h4=>exact r1 2 c v (by simpa [Kd.pv,he] using h3) (by simpa using h4)
  |4,h3,h4=>simp [Kd.pv,he] at h3 h4;subst h3 h4;exact r2
set_option maxRecDepth 20000 in
theorem readsKs (n:Nat)(cs:List Value)(x:DataW H × List MemPlace)(h:DataW.trod enc Tryz.prog W 0 (fun _=>true) true n 22 cs=some x)(hf:Fits 22 x.1):∃(l:List Kd) (v:Value),cs = [v]∧(l.length≤M47∧∀d∈l,d.wide)∧RepP W (allOf W) (kds l) v:=by
 obtain ⟨l,v,h1,h2,h3,h4⟩:=reads_sliceG (e:=66) (sz:=5) Tryz.underlying22 cells57 (by decide) Kd.pv Kd.wide (Fits 66) n (fun k hk cs x hx hfx=>by
  obtain ⟨d,a1,_,a3⟩:=readsK k cs x hx hfx;exact ⟨d,a1,kpv_len d,a3⟩) _ _ h (hoe_of Tryz.underlying22 hf)
 exact ⟨l,v,h1,⟨slice_len Tryz.underlying22 (of_decide_eq_true (by kernel_rfl)) hf (nil_len h4),h2⟩,h3⟩
set_option maxRecDepth 20000 in
theorem arg_agg {ps:List PV}{a:Array Value}(hl:a.toList.length=ps.length)(h:∀(j:Nat) (c:PV) (v:Value),ps[j]?=some c→a.toList[j]?=some v→RepP W (allOf W) c v):Rep W (allOf W) noHd (.agg (ps.map AV.pv)) (.agg a):=by
 have hp:∀(j:Nat) (c:AV) (v:Value),(ps.map AV.pv)[j]?=some c→a.toList[j]?=some v→∃q,c = .pv q∧RepP W (allOf W) q v:=by
  intro j c v hj hv;rw [List.getElem?_map] at hj;cases hq:ps[j]? with
  |none=>rw [hq] at hj;cases hj
  |some q=>rw [hq] at hj;cases hj;exact ⟨q,rfl,h j q v hq hv⟩
 have:=Rep.agg (w:=W) (F:=allOf W) (hd:=noHd) (ps.map AV.pv) a.toList (by rw [hl,List.length_map]) (fun j c v hj hv=>by
  obtain ⟨q,rfl,hq⟩:=hp j c v hj hv;exact .pv q v hq) fun v hv=>by
  obtain ⟨j,hj⟩:=List.getElem?_of_mem hv;have:j<(ps.map AV.pv).length:=by rw [List.length_map,←hl];exact (List.getElem?_eq_some_iff.1 hj).1
  obtain ⟨q,_,hq⟩:=hp j _ v (List.getElem?_eq_getElem this) hj;exact hq.one
 exact this
set_option maxRecDepth 20000 in
theorem argSc {b0:Nat}{v:Value}{d:DataW H}{p:List MemPlace}(hok:Value.okWide Tryz.prog W .any b0 25 v)(h:DataW.Trod enc Tryz.prog W 0 (fun _=>true) true 25 v d p)(hf:Fits 25 d):∃x:Sc,Rep W (allOf W) noHd x.av v∧x.wide:=by
 obtain ⟨a,rfl,_⟩:=okWide_struct Tryz.underlying25 hok;obtain ⟨n,hn⟩:=h;obtain ⟨hl,k,_,hp⟩:=parts_of Tryz.underlying25 hn hf;rw [cellsSc] at hl;obtain ⟨cs,hcs⟩:∃cs,(Value.agg a).cells.toList=cs:=⟨_,rfl⟩;rw [hcs] at hl hp
 match cs,hl,hcs with
 |[u,w],_,hcs=>
  obtain ⟨y0,g0,f0⟩:=hp 0 _ rfl;obtain ⟨y1,g1,f1⟩:=hp 1 _ rfl
  replace g0:DataW.trod enc Tryz.prog W 0 (fun _=>true) true k 22 [u]=some y0:=by simpa [cells39] using g0
  replace g1:DataW.trod enc Tryz.prog W 0 (fun _=>true) true k 23 [w]=some y1:=by simpa [cellsStrs] using g1
  obtain ⟨l,v0,q0,⟨s0,s0'⟩,r0⟩:=readsKs k _ _ g0 f0;obtain ⟨m,v1,q1,⟨s1,s1'⟩,r1⟩:=readsSs k _ _ g1 f1;cases q0;cases q1;have ha:a.toList = [u,w]:=hcs;refine ⟨⟨l,m⟩,arg_agg (ps:=[kds l,.ro 1 (m.map fun s=>[.val (.string s)])]) (by rw [ha];rfl) fun j c v h3 h4=>?_,⟨s0',s0,s1,s1'⟩⟩;rw [ha] at h4
  match j,h3,h4 with
  |0,h3,h4=>simp at h3 h4;subst h3 h4;exact r0
  |1,h3,h4=>simp at h3 h4;subst h3 h4;exact r1
end
end Go.Proofs.D
namespace Go.Proofs.D
open Go Go.Abs Go.RowKit Go.ChangeShapes Go.WideShapes
section
variable {H:Type} {enc:TypeId × Value→H} {W:World}
set_option maxRecDepth 20000 in
theorem argN {b0:Nat}{v:Value}{d:DataW H}{p:List MemPlace}(hok:Value.okWide Tryz.prog W .any b0 48 v)(h:DataW.Trod enc Tryz.prog W 0 (fun _=>true) true 48 v d p)(hf:Fits 48 d):∃x:N,Rep W (allOf W) noHd x.av v∧x.small:=by
 obtain ⟨a,rfl,_⟩:=okWide_struct Tryz.underlying48 hok;obtain ⟨n,hn⟩:=h;obtain ⟨x,h1,h2,h3⟩:=reads79 n _ _ hn hf;have e:x.av = .agg (x.pv.map AV.pv):=by rw [N.pv_eq];rfl
 exact ⟨x,e ▸ arg_agg (ps:=x.pv) (by rw [npv_len];exact h2) h3,h1⟩
end
end Go.Proofs.D
