/-
  NODES: is one a text, do names rise, are two alike; what an entry says.
-/
import Derived.Test.YtkjfaanenmhlbaaGreatDoorZ3
import Derived.Test.YtkjfaanenmhlbaaGreatDoorK3
import Derived.Test.YtkjfaanenmhlbaaGreatDoorL6
import Derived.Test.YtkjfaanenmhlbaaGreatDoorAbsP
set_option linter.unusedVariables false
set_option linter.unusedSimpArgs false
namespace Go.Proofs.D
open Go Go.Abs Go.RowKit
theorem f152 (Gl:Granted)(n:N):Fun Tryz.prog Gl 114 [n.av] [] (vB n.isText) []:=by
 refine fun_of (T:=T3) (n:=6) (rs:=[.tmp 2]) Tryz.func114 (by kernel_rfl) rfl rfl rfl tok3 mixed (by simp) fun C hC=>?_;refine hC.vc [] 60 ?_;by_cases h:n.kind=⟨#[116,101,120,116]⟩<;>simp [N.av,N.cells,N.isText,textK,h]
theorem f154 (Gl:Granted)(a b:N):Fun Tryz.prog Gl 117 [a.av,b.av] [] (vB (alike a b)) []:=by
 refine fun_of (T:=T3) (n:=18) (rs:=[.tmp 4]) Tryz.func117 (by kernel_rfl) rfl rfl rfl tok3 mixed (by simp) fun C hC=>?_;refine hC.vc [] 60 ?_;simp [N.av,N.cells];refine hC.call [] (f152 Gl a) (by simp [N.av,N.cells]) ?_;refine hC.vc [] 60 ?_;cases h1:a.isText with
 |false=>simp [alike,h1]
 |true=>
  simp;refine hC.call [] (f152 Gl b) (by simp [N.av,N.cells]) ?_;refine hC.vc [] 60 ?_;cases h2:b.isText with
  |false=>simp [alike,h1,h2]
  |true=>
   simp;refine hC.call [] (f70 Gl a.marks b.marks) (by simp) ?_;refine hC.vc [] 60 ?_;simp [alike,h1,h2]
def prevAt {α:Type}(l:List α)(i:Nat):Option α:=if i=0 then none else l[i-1]?
theorem prevAt_succ {α:Type}{l:List α}{i:Nat}(h:i<l.length):prevAt l (i+1)=some l[i]:=by
 simp [prevAt,h]
set_option maxRecDepth 20000 in
theorem f153 (Gl:Granted)(l:List ByteArray)(hs:∀s∈l,s.size≤M47):Fun Tryz.prog Gl 116 [.pv (strs l)] [] (vB (rise l)) []:=by
 refine fun_of (T:=T3) (n:=29) (rs:=[.tmp 2]) Tryz.func116 (by kernel_rfl) rfl rfl rfl tok3 mixed (by simp) fun C hC=>?_;refine hC.vc [] 60 ?_;simp;refine go_len 0 1 (l.map fun s=>[.val (.string s)]) (by simp) fun hk=>?_;rw [List.length_map] at hk;refine go_loop (ι:={i:Nat // i≤l.length∧rise l=riseFrom (prevAt l i) (l.drop i)}) (fun x=>⟨[(0,.pv (strs l)),(5,.pv (strs l)),(6,vI l.length),(7,vI x.1)],[]⟩)
  (fun x=>l.length-x.1) ⟨0,by simp [rise,prevAt]⟩ [] (by simp) fun x ih=>?_
 obtain ⟨i,hi,hn⟩:=x;simp only at hi hn ih;refine hC.vc [] 60 ?_;by_cases hlt:i<l.length
 ·rw [List.drop_eq_getElem_cons hlt] at hn;simp only [riseFrom] at hn;have hw:=wr64 ((i:Int)+1) (by omega);simp [hlt];refine hC.call [] (f58 Gl l[i] (by have:=hs l[i] (by simp);simp only [M47] at this;omega)) (by simp) ?_;refine hC.vc [] 60 ?_;cases hnm:isName l[i] with
  |false=>
   simp [hn,hnm]
  |true=>
   rw [hnm,Bool.true_and] at hn;by_cases h0:0<(i:Int)
   ·have hw2:=wr64 ((i:Int)-1) (by omega);have hi1:i-1<l.length:=(by omega);have h0n:0<i:=(by omega);have e1:((i:Int)-1)=((i-1:Nat):Int):=(by omega);have hp:prevAt l i=some l[i-1]:=by
     unfold prevAt;rw [if_neg (by omega),List.getElem?_eq_getElem hi1]
    rw [hp] at hn;simp only at hn;rw [e1] at hw2;cases hu:notUp l[i] l[i-1] with
    |true=>
     rw [hu] at hn;have hu':(Op.bytesLess l[i].toList l[i-1].toList || decide (l[i]=l[i-1]))=true:=hu;simp [h0n,hw2,e1,hi1,hu',hn]
    |false=>
     rw [hu] at hn;have hu':(Op.bytesLess l[i].toList l[i-1].toList || decide (l[i]=l[i-1]))=false:=hu;simp [h0n,hw2,e1,hi1,hu'];exact go_to [] (ih ⟨i+1,hlt,by rw [prevAt_succ hlt,hn];simp⟩ (by simp;omega)) (by simp [hw])
   ·have hi0:i=0:=(by omega);subst hi0;simp only [prevAt,if_true,Bool.true_and] at hn;simp;exact go_to [] (ih ⟨1,hlt,by rw [hn];simp [prevAt,List.getElem?_eq_getElem hlt]⟩ (by simp;omega)) (by simp [wr64 1 (by omega)])
 ·rw [List.drop_eq_nil_of_le (by omega)] at hn;simp [hlt,hn,riseFrom]
def lessB (left:Int)(w:Nat):Int:=if left-w<1 then -1 else left-w
theorem names1_drop {l:List ByteArray}{i:Nat}(h:i<l.length):names1 (l.drop i)=1+l[i].size+names1 (l.drop (i+1)):=by
 rw [List.drop_eq_getElem_cons h];simp [names1]
theorem attrs1_drop {l:List (ByteArray × ByteArray)}{i:Nat}(h:i<l.length):attrs1 (l.drop i)=1+l[i].1.size+l[i].2.size+attrs1 (l.drop (i+1)):=by
 rw [List.drop_eq_getElem_cons h];simp [attrs1]
theorem wtgo_drop {l:List N}{i:Nat}(h:i<l.length):N.wt.go (l.drop i)=l[i].wt+N.wt.go (l.drop (i+1)):=by
 rw [List.drop_eq_getElem_cons h];simp [N.wt.go]
set_option maxRecDepth 20000 in
set_option maxHeartbeats 2000000 in
theorem f36 (Gl:Granted)(n:N)(left:Int)(hs:n.small)(h1 : -1000000000000000≤left)(h2:left≤1000000):Fun Tryz.prog Gl 24 [n.av,vI left] [] (vI (lessB left n.wt)) []:=by
 obtain ⟨s1,s2,s3,s4,s5⟩:=(N.small_eq n).1 hs;have hrec:∀x∈n.kids,∀l:Int,-1000000000000000≤l→l≤1000000→Fun Tryz.prog Gl 24 [x.av,vI l] [] (vI (lessB l x.wt)) []:=fun x hx l a b=>f36 Gl x l (s5 x hx) a b;have hwt:=N.wt_eq n;have e47:M47=140737488355328:=rfl;rw [e47] at s1 s2 s3 s4;have w1:=wr64 (left-1) (by omega);have w2:=wr64 (left-1-n.kind.size) (by omega);have w3:=wr64 (left-1-n.kind.size-n.text.size) (by omega);refine fun_of (T:=T3) (n:=88) (rs:=[.tmp 4]) Tryz.func24 (by kernel_rfl) rfl rfl rfl tok3 mixed (by simp) fun C hC=>?_;refine hC.vc [] 60 ?_;simp [N.av,N.cells,w1,w2,w3];refine go_loop (ι:={x:Nat × Int // x.1≤n.marks.length∧-1000000000000000≤x.2+600000000000000∧x.2≤1000000∧(x.2-names1 (n.marks.drop x.1)-attrs1 n.attrs-N.wt.go n.kids=left-n.wt)}) (fun x=>⟨[(1,vI x.1.2),(2,.ptr (.loc 2) 0),(5,vI x.1.1)],[(.loc 2,some (.box 48 n.cells))]⟩)
  (fun x=>n.marks.length-x.1.1) ⟨(0,left-1-n.kind.size-n.text.size),by simp;omega⟩ [] (by simp [N.cells]) fun x ih=>?_
 obtain ⟨⟨i,l⟩,hi,hb1,hb2,hD⟩:=x;simp only at hi hb1 hb2 hD ih;refine go_lenB (.loc 2) 48 n.cells 2 1 (n.marks.map fun s=>[.val (.string s)]) (by simp [N.cells]) (by simp [N.cells]) fun hl1=>?_;rw [List.length_map] at hl1;refine go_lenB (.loc 2) 48 n.cells 3 2 (n.attrs.map fun p=>[.val (.string p.1),.val (.string p.2)]) (by simp [N.cells]) (by simp [N.cells]) fun hl2=>?_;rw [List.length_map] at hl2;refine go_lenB (.loc 2) 48 n.cells 4 5 (n.kids.map N.pv) (by simp [N.cells]) (by simp [N.cells]) fun hl3=>?_;rw [List.length_map] at hl3;by_cases hgo:i<n.marks.length∧0<l
 ·obtain ⟨hlt,hp⟩:=hgo;have hwi:=wr64 ((i:Int)+1) (by omega);have hsz:=s3 n.marks[i] (by simp);have v1:=wr64 (l-1) (by omega);have v2:=wr64 (l-1-n.marks[i].size) (by omega);have hd:=names1_drop hlt;refine hC.vc [] 60 ?_;simp [N.cells,hlt,hp,v1,v2];exact go_to [] (ih ⟨(i+1,l-1-n.marks[i].size),by dsimp only;omega,by dsimp only;omega,by dsimp only;omega,by dsimp only;omega⟩ (by simp;omega)) (by simp [hwi,N.cells])
 ·-- the attributes
  have hD2:l-attrs1 n.attrs-N.wt.go n.kids=left-n.wt∨(l≤0∧left-n.wt<1):=by
   by_cases hlt:i<n.marks.length
   ·right;constructor<;>omega
   ·left;rw [List.drop_eq_nil_of_le (by omega)] at hD;simp only [names1,List.map_nil,List.sum_nil] at hD;omega
  refine hC.vc [] 60 ?_;by_cases hlt:i<n.marks.length
  all_goals
   have hp':i<n.marks.length→¬0<l:=fun h h'=>hgo ⟨h,h'⟩
   first
    |(have hp0:=hp' hlt
      simp [N.cells,hlt,hp0])
    |simp [N.cells,hlt]
   refine go_loop (ι:={x:Nat × Int // x.1≤n.attrs.length∧-1000000000000000≤x.2+600000000000000∧x.2≤1000000∧(x.2-attrs1 (n.attrs.drop x.1)-N.wt.go n.kids=left-n.wt∨(x.2≤0∧left-n.wt<1))}) (fun x=>⟨[(1,vI x.1.2),(2,.ptr (.loc 2) 0),(6,vI x.1.1)],[(.loc 2,some (.box 48 n.cells))]⟩)
    (fun x=>n.attrs.length-x.1.1) ⟨(0,l),by simpa using ⟨hb1,hb2,hD2⟩⟩ [] (by simp [N.cells]) fun x ih2=>?_
   obtain ⟨⟨j,m⟩,hj,hc1,hc2,hE⟩:=x;simp only at hj hc1 hc2 hE ih2;by_cases hgo2:j<n.attrs.length∧0<m
   ·obtain ⟨hlj,hpm⟩:=hgo2;have hwi:=wr64 ((j:Int)+1) (by omega);obtain ⟨hsz1,hsz2⟩:=s4 n.attrs[j] (by simp);have v1:=wr64 (m-1) (by omega);have v2:=wr64 (m-1-n.attrs[j].1.size) (by omega);have v3:=wr64 (m-1-n.attrs[j].1.size-n.attrs[j].2.size) (by omega);have hd:=attrs1_drop hlj;refine hC.vc [] 60 ?_;simp [N.cells,hlj,hpm,v1,v2,v3];exact go_to [] (ih2 ⟨(j+1,m-1-n.attrs[j].1.size-n.attrs[j].2.size),by dsimp only;omega,by dsimp only;omega,by dsimp only;omega,by dsimp only;omega⟩ (by simp;omega)) (by simp [hwi,N.cells])
   ·-- the kids
    have hE2:m-N.wt.go n.kids=left-n.wt∨(m≤0∧left-n.wt<1):=by
     rcases hE with hE|hE
     ·by_cases hlj:j<n.attrs.length
      ·right;constructor<;>omega
      ·left;rw [List.drop_eq_nil_of_le (by omega)] at hE;simp only [attrs1,List.map_nil,List.sum_nil] at hE;omega
     ·exact .inr hE
    refine hC.vc [] 60 ?_;by_cases hlj:j<n.attrs.length
    all_goals
     have hq':j<n.attrs.length→¬0<m:=fun h h'=>hgo2 ⟨h,h'⟩
     first
      |(have hq0:=hq' hlj
        simp [N.cells,hlj,hq0])
      |simp [N.cells,hlj]
     refine go_loop (ι:={x:Nat × Int // x.1≤n.kids.length∧-1000000000000000≤x.2+600000000000000∧x.2≤1000000∧(x.2-N.wt.go (n.kids.drop x.1)=left-n.wt∨(x.2≤0∧left-n.wt<1))}) (fun x=>⟨[(1,vI x.1.2),(2,.ptr (.loc 2) 0),(7,vI x.1.1)],[(.loc 2,some (.box 48 n.cells))]⟩)
      (fun x=>n.kids.length-x.1.1) ⟨(0,m),by simpa using ⟨hc1,hc2,hE2⟩⟩ [] (by simp [N.cells]) fun x ih3=>?_
     obtain ⟨⟨k,q⟩,hk,hd1,hd2,hG⟩:=x;simp only at hk hd1 hd2 hG ih3;by_cases hgo3:k<n.kids.length∧0<q
     ·obtain ⟨hlk,hpq⟩:=hgo3;have hwi:=wr64 ((k:Int)+1) (by omega);have hd:=wtgo_drop hlk;have hkp:=wt_pos n.kids[k];refine hC.vc [] 60 ?_;simp [N.cells,hlk,hpq,N.pv_eq];refine hC.call [] (hrec n.kids[k] (by simp) q (by omega) hd2) (by simp [N.av,N.cells]) ?_;obtain ⟨r,hr⟩:∃r,lessB q n.kids[k].wt=r:=⟨_,rfl⟩;rw [hr];have hr':=hr;unfold lessB at hr';refine hC.vc [] 60 ?_;simp;refine go_to [] (ih3 ⟨(k+1,r),by dsimp only;omega,?_⟩ (by simp;omega)) (by simp [hwi,N.cells]);dsimp only;split at hr'<;>omega
     ·have hfin:(q<1→lessB left n.wt = -1)∧(¬q<1→lessB left n.wt=q):=by
       unfold lessB;by_cases hlk:k<n.kids.length
       ·have hq:¬0<q:=fun h=>hgo3 ⟨hlk,h⟩;constructor
        ·intro _;rw [if_pos (by omega)]
        ·intro h;omega
       ·rw [List.drop_eq_nil_of_le (by omega)] at hG;simp only [N.wt.go] at hG;constructor
        ·intro h;rw [if_pos (by omega)]
        ·intro h;rw [if_neg (by omega)];omega
      refine hC.vc [] 60 ?_;by_cases hlk:k<n.kids.length
      ·have hq:¬0<q:=fun h=>hgo3 ⟨hlk,h⟩;have hq1:q<1:=(by omega);simp [N.cells,hlk,hq,hq1,hfin.1 hq1]
      ·by_cases hq1:q<1
       ·simp [N.cells,hlk,hq1,hfin.1 hq1]
       ·simp [N.cells,hlk,hq1,hfin.2 hq1]
termination_by SizeOf.sizeOf n
decreasing_by exact N.kids_lt hx
end Go.Proofs.D
