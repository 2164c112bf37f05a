/-
  WHAT IS READ OF A SLICE, A TEXT.
-/
import Derived.Test.YtkjfaanenmhlbaaGreatDoorZ0
import Derived.Test.YtkjfaanenmhlbaaGreatDoorAbsR
set_option linter.unusedVariables false
set_option linter.unusedSimpArgs false
namespace Go.Proofs.D
open Go Go.Abs Go.RowKit Go.ChangeShapes Go.WideShapes
section
variable {H:Type} {enc:TypeId × Value→H} {W:World}
abbrev allOf (W:World)(k:Nat):Prop:=k<W.heap.size
theorem cells9:Tryz.prog.cellsOf 9=1:=by kernel_rfl
theorem again9 (n:Nat):Again H enc Tryz.prog n 9:=again_string Tryz.underlying9 n
theorem again42 (n:Nat):Again H enc Tryz.prog n 23:=again_slice Tryz.underlying23 (by rw [cells9];decide) n fun m _=>again9 m
theorem add_add {a:Addr}(hs:a.spot=none)(p j:Nat):(a.add p).add j=a.add (p+j):=by
 obtain ⟨b,o,s⟩:=a;simp at hs;subst hs;rw [add_at,add_at,add_at,Nat.add_assoc]
theorem cell_lt {w:World}{a:Addr}{v:Value}(h:w.cell? a=some v):a.block<w.heap.size∧a.spot=none:=by
 unfold World.cell? at h;cases hb:w.heap[a.block]? with
 |none=>rw [hb] at h;cases h
 |some o=>
  refine ⟨(Array.getElem?_eq_some_iff.1 hb).1,?_⟩;rw [hb] at h;cases o with
  |cells c t f=>
   simp only at h;cases hs:a.spot with
   |none=>rfl
   |some s=>rw [hs] at h;simp at h
  |_=>cases h
theorem cells_get {w:World}{a:Addr}{n:Nat}{c:List Value}(h:w.cells? 0 a n=some c):c.length=n∧∀j,j<n→w.cell? (a.add j)=c[j]?:=by
 unfold World.cells? at h;simp only [Nat.zero_le,if_true] at h;exact ⟨by simpa using mapM_some_length h,fun j hj=>mapM_some_get h j j (by simp [hj])⟩
theorem reads_sliceG {t e sz:Nat}(ht:Tryz.prog.underlying t=some (.slice e))(hc:Tryz.prog.cellsOf e=sz)(hsz:0<sz){X:Type}[Inhabited X](pv:X→List PV)(good:X→Prop)(okE:DataW H→Prop)(n:Nat)
 (he:∀m,m<n→∀cs x,DataW.trod enc Tryz.prog W 0 (fun _=>true) true m e cs=some x→okE x.1→∃y:X,good y∧(pv y).length=sz∧∀(j:Nat) (c:PV) (v:Value),(pv y)[j]?=some c→cs[j]?=some v→RepP W (allOf W) c v)
 (cs:List Value) (x:DataW H × List MemPlace) (h:DataW.trod enc Tryz.prog W 0 (fun _=>true) true n t cs=some x) (hoe:∀es sp,x.1 = .slice es sp→∀d∈es,okE d) :
 ∃(l:List X) (v:Value),cs = [v]∧(∀y∈l,good y)∧RepP W (allOf W) (.ro sz (l.map pv)) v∧(x.1 = .nil∧l = []∨∃es sp,x.1 = .slice es sp∧es.length=l.length):=by
 rcases DataW.trod_slice ht h with ⟨rfl,rfl⟩|⟨a,len,cap,elems,rest,m,rfl,rfl,rfl,hb,hcl,hm,hle,hel,hr,_⟩
 ·exact ⟨[],_,rfl,by simp,.ro sz [] none 0 (fun _ _=>undef) (fun _=>rfl) (by simp) (by simp) (fun i e h=>by simp at h) (fun h=>absurd rfl h) (fun i j e c h=>by simp at h),.inl ⟨rfl,rfl⟩⟩
 ·rw [hc] at hel;have hx:∀i,i<len→∃(y:X) (c:List Value),good y∧(pv y).length=sz∧W.cells? 0 (a.add (i*sz)) sz=some c∧∀(j:Nat) (p:PV) (v:Value),(pv y)[j]?=some p→c[j]?=some v→RepP W (allOf W) p v:=by
   intro i hi;have h2:=hel i hi;rw [List.getElem?_eq_getElem (by omega)] at h2;obtain ⟨c,hc1,hc2⟩:=Option.bind_eq_some_iff.1 h2;obtain ⟨y,y1,y2,y3⟩:=he m (by omega) c _ hc2 (hoe _ _ rfl _ (List.mem_map_of_mem (List.getElem_mem _)));exact ⟨y,c,y1,y2,hc1,y3⟩
  let f:Nat→X:=fun i=>if hi:i<len then (hx i hi).choose else default
  have hf:∀i (hi:i<len),good (f i)∧(pv (f i)).length=sz∧∃c,W.cells? 0 (a.add (i*sz)) sz=some c∧∀(j:Nat) (p:PV) (v:Value),(pv (f i))[j]?=some p→c[j]?=some v→RepP W (allOf W) p v:=by
   intro i hi;have e1:f i=(hx i hi).choose:=dif_pos hi;obtain ⟨c,q1,q2,q3,q4⟩:=(hx i hi).choose_spec;rw [e1];exact ⟨q1,q2,c,q3,q4⟩
  have hspot:0<len→a.spot=none∧a.block<W.heap.size:=by
   intro h0;obtain ⟨_,_,c,q3,_⟩:=hf 0 h0;obtain ⟨l1,l2⟩:=cells_get q3;have:=l2 0 hsz;rw [List.getElem?_eq_getElem (by omega)] at this;have h3:=cell_lt this;simp [Addr.add] at h3;exact ⟨h3.2,h3.1⟩
  have hval:∀i j,i<len→j<sz→∃v,W.cell? (a.add (i*sz+j))=some v∧∀p,(pv (f i))[j]?=some p→RepP W (allOf W) p v:=by
   intro i j hi hj;obtain ⟨_,_,c,q3,q4⟩:=hf i hi;obtain ⟨l1,l2⟩:=cells_get q3;have h2:=l2 j hj;rw [add_add (hspot (by omega)).1,List.getElem?_eq_getElem (by omega)] at h2;exact ⟨_,h2,fun p hp=>q4 j p _ hp (List.getElem?_eq_getElem _)⟩
  have hlen:((List.range len).map f).length=len:=by simp
  have hget:∀(i:Nat) (el:List PV),(((List.range len).map f).map pv)[i]?=some el→i<len∧el=pv (f i):=by
   intro i el hi;rw [List.map_map,List.getElem?_map] at hi;cases hri:(List.range len)[i]? with
   |none=>rw [hri] at hi;cases hi
   |some k=>
    rw [hri] at hi;obtain ⟨h1,h2⟩:=List.getElem?_eq_some_iff.1 hri;simp at h1 h2 hi;subst h2;exact ⟨h1,hi.symm⟩
  refine ⟨(List.range len).map f,_,rfl,?_,?_,.inr ⟨_,_,rfl,by simp [hle]⟩⟩
  ·intro y hy;obtain ⟨i,hi,rfl⟩:=List.mem_map.1 hy;exact (hf i (by simpa using hi)).1
  ·have hro:=RepP.ro (w:=W) (F:=allOf W) sz (((List.range len).map f).map pv) (some a) cap (fun i j=>(W.cell? (a.add (i*sz+j))).getD undef) (fun h=>by cases h) (by simpa using hcl) (by simp;simp only [maxLen] at hm;omega) (fun i el hi=>by
    obtain ⟨h1,rfl⟩:=hget i el hi;exact (hf i h1).2.1) (fun hne=>by
    have h0:0<len:=by
     rcases Nat.eq_zero_or_pos len with h|h
     ·subst h;simp at hne
     ·exact h
    refine ⟨a,rfl,(hspot h0).1,(hspot h0).2,fun i j el c h1 h2=>?_⟩;obtain ⟨g1,rfl⟩:=hget i el h1;have g2:j<sz:=(by rw [←(hf i g1).2.1];exact (List.getElem?_eq_some_iff.1 h2).1);obtain ⟨v,q1,_⟩:=hval i j g1 g2;rw [q1];rfl) (fun i j el c h1 h2=>by
    obtain ⟨g1,rfl⟩:=hget i el h1;have g2:j<sz:=(by rw [←(hf i g1).2.1];exact (List.getElem?_eq_some_iff.1 h2).1);obtain ⟨v,q1,q2⟩:=hval i j g1 g2;rw [q1];exact q2 c h2)
   simpa using hro
theorem reads_slice {t e sz:Nat}(ht:Tryz.prog.underlying t=some (.slice e))(hc:Tryz.prog.cellsOf e=sz)(hsz:0<sz){X:Type}[Inhabited X](pv:X→List PV)(good:X→Prop)(n:Nat)
 (he:∀m,m<n→∀cs x,DataW.trod enc Tryz.prog W 0 (fun _=>true) true m e cs=some x→∃y:X,good y∧(pv y).length=sz∧∀(j:Nat) (c:PV) (v:Value),(pv y)[j]?=some c→cs[j]?=some v→RepP W (allOf W) c v)
 (cs:List Value) (x:DataW H × List MemPlace) (h:DataW.trod enc Tryz.prog W 0 (fun _=>true) true n t cs=some x) :
 ∃(l:List X) (v:Value),cs = [v]∧(∀y∈l,good y)∧RepP W (allOf W) (.ro sz (l.map pv)) v∧(x.1 = .nil∧l = []∨∃es sp,x.1 = .slice es sp∧es.length=l.length):=
 reads_sliceG ht hc hsz pv good (fun _=>True) n (fun m hm cs x h _=>he m hm cs x h) cs x h fun _ _ _ _ _=>trivial
instance:Inhabited ByteArray:=⟨⟨#[]⟩⟩
theorem str_of {sp:Nat→Bool}{held:Bool}{n:Nat}{cs:List Value}{x:DataW H × List MemPlace}(h:DataW.trod enc Tryz.prog W 0 sp held n 9 cs=some x):∃s:ByteArray,cs = [.string s]∧s.size≤maxLen:=by
 obtain ⟨s,h1,_,h2⟩:=DataW.trod_string Tryz.underlying9 h;exact ⟨s,h1,h2⟩
abbrev noHd:Nm→Hd:=fun _=>.dead
end
end Go.Proofs.D
