/-
  THE LIBRARY'S FUNCTIONS that read its tables; a text between quotes.
-/
import Derived.Test.YtkjfaanenmhlbaaGreatDoorZ3
import Derived.Test.YtkjfaanenmhlbaaGreatDoorK12
import Derived.Test.YtkjfaanenmhlbaaGreatDoorP2
import Derived.Test.YtkjfaanenmhlbaaGreatDoorAbsP
import Derived.Test.YtkjfaanenmhlbaaGreatDoorShelfB
import Derived.Test.YtkjfaanenmhlbaaGreatDoorK1
import Derived.Test.YtkjfaanenmhlbaaGreatDoorDJ
import Derived.Test.YtkjfaanenmhlbaaGreatDoorB0
import Derived.SizedLaws
set_option linter.unusedVariables false
set_option linter.unusedSimpArgs false
namespace Go.Proofs.D
open Go Go.Abs Go.RowKit
def tabs:Granted:=⟨fun w F=>Lib.Utf8Tabs 0 1 w∧F 0∧F 1∧(∃m,w.cell? ⟨2,0,none⟩=some (.int .i64 m))∧F 2,by
 rintro w w' F F' ⟨⟨h1,h2⟩,f0,f1,⟨m,hm⟩,f2⟩ hw hF
 have hc:∀(k o:Nat),F k→w'.cell? ⟨k,o,none⟩=w.cell? ⟨k,o,none⟩:=fun k o hk=>World.cell?_of_block (w:=w) (hw k hk);refine ⟨⟨fun c hc'=>by rw [hc 0 c f0];exact h1 c hc',fun i hi=>?_⟩,hF _ f0,hF _ f1,⟨m,by rw [hc 2 0 f2];exact hm⟩,hF _ f2⟩;rw [hc 1 _ f1,hc 1 _ f1];exact h2 i hi⟩
theorem f90 (s:ByteArray)(hs:s.size≤9223372036854775807):Fun Tryz.prog tabs 115 [vS s] [] (vB (utfOk s)) []:=by
 refine fun_shelf ⟨_,Tryz.func115,by kernel_rfl,rfl⟩ fun w F cargs hg hF hlen hr=>?_
 match cargs,hlen with
 |[c0],_=>
  obtain rfl:=bool_of (hr 0 _ c0 rfl rfl);exact (Tryz.utf8_ValidString s w hs hg.1).mono fun e w' ⟨he,hb⟩=>⟨_,he,.pv _ _ (.val _ rfl),hb⟩
theorem f149 (Gl:Granted)(s:ByteArray)(hs:s.size<9223372036854775807):Fun Tryz.prog Gl 118 [vS s] [] (vI (Lib.runeCount s)) []:=by
 refine fun_shelf ⟨_,Tryz.func118,by kernel_rfl,rfl⟩ fun w F cargs hg hF hlen hr=>?_
 match cargs,hlen with
 |[c0],_=>
  obtain rfl:=bool_of (hr 0 _ c0 rfl rfl);exact (Tryz.utf8_RuneCountInString s w hs).mono fun e w' ⟨he,pos,hb⟩=>⟨_,he,.pv _ _ (.val _ rfl),by rw [hb];exact (Below.refl _ _).alloc (Nat.le_refl _) _⟩
theorem f67 (s:ByteArray)(hs:s.size≤9223372036854775807):Fun Tryz.prog tabs 60 [vS s] [] (vB (value s)) []:=by
 refine fun_of (T:=T3) (n:=10) (rs:=[.tmp 2]) Tryz.func60 (by kernel_rfl) rfl rfl rfl tok3 mixed (by simp) fun C hC=>?_;by_cases h:(s.size:Int)≤40
 ·refine hC.vc [] 60 ?_;simp [h];refine hC.call [] (f90 s hs) (by simp) ?_;refine hC.vc [] 60 ?_;simp [value,h]
 ·refine hC.vc [] 60 ?_;simp [value,h]
def bs (l:Bs):ByteArray:=⟨l.toArray⟩
theorem bs_size (l:Bs):(bs l).size=l.length:=rfl
theorem bs_list (l:Bs):(bs l).data.toList=l:=by simp [bs]
theorem N.lim {n:N}(h:n.wt≤100000):n.kind.size≤100000∧n.text.size≤100000∧(∀s∈n.marks,s.size≤100000)∧(∀p∈n.attrs,p.1.size≤100000∧p.2.size≤100000)∧(∀x∈n.kids,x.wt≤100000)∧n.marks.length≤100000∧n.attrs.length≤100000∧n.kids.length≤100000:=by
 rw [N.wt_eq] at h;have h1:=names1_len n.marks;have h2:=attrs1_len n.attrs;have h3:=go_len_wt n.kids;refine ⟨by omega,by omega,fun s hs=>?_,fun p hp=>?_,fun x hx=>?_,by omega,by omega,by omega⟩
 ·have:=mem_names1 hs;omega
 ·have:=mem_attrs1 hp;exact ⟨by omega,by omega⟩
 ·have:=wt_kid hx;omega
def N.lims:N→Prop
 |.mk k t m a kids=>(k.size≤M47∧t.size≤M47∧(∀s∈m,s.size≤M47)∧(∀p∈a,p.1.size≤M47∧p.2.size≤M47)∧m.length≤1000000∧a.length≤1000000∧kids.length≤1000000)∧go kids
where go:List N→Prop
 |[]=>True
 |x::l=>x.lims∧go l
theorem lims_go {l:List N}:N.lims.go l↔∀x∈l,x.lims:=by
 induction l with
 |nil=>simp [N.lims.go]
 |cons y l ih=>simp [N.lims.go,ih]
theorem N.limL {n:N}(h:n.lims):n.kind.size≤M47∧n.text.size≤M47∧(∀s∈n.marks,s.size≤M47)∧(∀p∈n.attrs,p.1.size≤M47∧p.2.size≤M47)∧(∀x∈n.kids,x.lims)∧n.marks.length≤1000000∧n.attrs.length≤1000000∧n.kids.length≤1000000:=by
 obtain ⟨k,t,m,a,kids⟩:=n;simp only [N.lims] at h;obtain ⟨⟨h1,h2,h3,h4,h5,h6,h7⟩,h8⟩:=h;exact ⟨h1,h2,h3,h4,lims_go.1 h8,h5,h6,h7⟩
theorem lims_of:∀(n:N),n.wt≤100000→n.lims
 |.mk k t m a kids,h=>by
  obtain ⟨l1,l2,l3,l4,l5,l6,l7,l8⟩:=N.lim h;simp only [N.kind,N.text,N.marks,N.attrs,N.kids] at l1 l2 l3 l4 l5 l6 l7 l8;simp only [N.lims,M47];exact ⟨⟨by omega,by omega,fun s hs=>by have:=l3 s hs;omega,fun p hp=>by have:=l4 p hp;exact ⟨by omega,by omega⟩,by omega,by omega,by omega⟩,lims_go.2 fun x hx=>lims_of x (l5 x hx)⟩
termination_by n=>SizeOf.sizeOf n
decreasing_by exact N.kids_lt (e:=.mk k t m a kids) hx
set_option maxRecDepth 20000 in
set_option maxHeartbeats 2000000 in
theorem f131L (n:N)(hw:n.lims):Fun Tryz.prog tabs 56 [n.av] [] (vB n.form) []:=by
 obtain ⟨z1,z2,z3,z4,z5,z6,z7,z8⟩:=N.limL hw;simp only [M47] at z1 z2 z3 z4;have hrec:∀x∈n.kids,Fun Tryz.prog tabs 56 [x.av] [] (vB x.form) []:=fun x hx=>f131L x (z5 x hx);refine fun_of (T:=T3) (n:=96) (rs:=[.tmp 2]) Tryz.func56 (by kernel_rfl) rfl rfl rfl tok3 mixed (by simp) fun C hC=>?_;have hform:=N.form_eq n;refine hC.vc [] 60 ?_;simp [N.av,N.cells];refine hC.call [] (f152 tabs n) (by simp [N.av,N.cells]) ?_;cases hk:n.isText with
 |true=>
  have hkind:n.kind=textK:=by simpa [N.isText] using hk
  rw [if_pos hkind] at hform;by_cases ht:n.text=⟨#[]⟩
  ·refine hC.vc [] 60 ?_;simp [ht,hform]
  ·simp only [ht,decide_false,Bool.not_false,Bool.true_and] at hform;refine hC.vc [] 60 ?_;simp [N.cells,ht];refine hC.call [] (f90 n.text (by omega)) (by simp) ?_;refine hC.vc [] 60 ?_;cases hu:utfOk n.text with
   |false=>simp [hform,hu]
   |true=>
    rw [hu,Bool.true_and] at hform;simp [N.cells];refine hC.call [] (f153 tabs n.marks fun s hs=>Nat.le_trans (z3 s hs) (by decide)) (by simp) ?_;refine hC.vc [] 60 ?_;cases hr:rise n.marks with
    |false=>simp [hform,hr]
    |true=>
     rw [hr,Bool.true_and] at hform;have hw0:=wr64 0 (by omega);have hsum:=wr64 ((n.attrs.length:Int)+n.kids.length) (by omega);by_cases h0:(n.attrs.length:Int)+n.kids.length=0
     ·have h1:n.attrs = []:=List.eq_nil_of_length_eq_zero (by omega);have h2:n.kids.length=0:=(by omega);have:n.form=true:=(by rw [hform];simp [h1,h2]);simp [N.cells,hsum,h0,hw0,this]
     ·have:n.form=false:=by
       rw [hform];by_cases h1:n.attrs = []
       ·have h2:¬n.kids.length=0:=(by rw [h1] at h0;simpa using h0);simp [h2]
       ·simp [h1]
      simp [N.cells,hsum,h0,hw0,this]
 |false=>
  have hkind:¬n.kind=textK:=by simpa [N.isText] using hk
  rw [if_neg hkind] at hform;refine hC.vc [] 60 ?_;simp [N.cells];refine go_loop (ι:={i:Nat // i≤n.attrs.length∧n.attrs.all (fun p=>value p.2)=(n.attrs.drop i).all (fun p=>value p.2)}) (fun x=>⟨[(1,.ptr (.loc 1) 0),(34,.pv (pairs n.attrs)),(35,vI n.attrs.length),(36,vI x.1),(3,.own (.can 0))],
   [(.loc 1,some (.box 48 n.cells)),(.can 0,some (.row 9 1 ((n.attrs.map fun p=>[PV.val (.string p.1)]).take x.1)))]⟩)
   (fun x=>n.attrs.length-x.1) ⟨0,by simp⟩ [(.can 0,.nil)] (by simp [N.cells]) fun x ih=>?_
  obtain ⟨i,hi,hn⟩:=x;simp only at hi hn ih;refine hC.vc [] 60 ?_;by_cases hlt:i<n.attrs.length
  ·have hw1:=wr64 ((i:Int)+1) (by omega);rw [List.drop_eq_getElem_cons hlt,List.all_cons] at hn;simp [hlt,N.cells];refine hC.call [] (f67 n.attrs[i].2 (by have:=(z4 n.attrs[i] (by simp)).2;omega)) (by simp) ?_;cases hv:value n.attrs[i].2 with
   |false=>
    rw [hv,Bool.false_and] at hn;have:n.form=false:=(by rw [hform,hn];rfl);refine hC.vc [] 60 ?_;simp [this]
   |true=>
    rw [hv,Bool.true_and] at hn;refine hC.vc [] 60 ?_;simp;refine ⟨by omega,?_⟩;have htk:(n.attrs.map fun p=>[PV.val (.string p.1)]).take (i+1)=(n.attrs.map fun p=>[PV.val (.string p.1)]).take i++[[.val (.string n.attrs[i].1)]]:=by
     rw [List.take_add_one,List.getElem?_map,List.getElem?_eq_getElem hlt];rfl
    exact go_to [(.can 0,.nm (.loc 48))] (ih ⟨i+1,hlt,hn⟩ (by simp;omega)) (by simp [hw1,N.cells,htk])
  ·rw [List.drop_eq_nil_of_le (by omega),List.all_nil] at hn;rw [hn,Bool.true_and] at hform;have hnm:(n.attrs.map fun p=>[PV.val (.string p.1)]).take i=(n.attrs.map (·.1)).map fun s=>[PV.val (.string s)]:=by
    rw [List.take_of_length_le (by simp;omega),List.map_map];rfl
   rw [hnm];simp [hlt,N.cells];refine hC.call [] (f58 tabs n.kind (by omega)) (by simp) ?_;cases hnk:isName n.kind with
   |false=>
    have:n.form=false:=(by rw [hform,hnk];rfl);refine hC.vc [] 60 ?_;simp [this]
   |true=>
    rw [hnk,Bool.true_and] at hform;by_cases ht:n.text=⟨#[]⟩
    ·by_cases hm:n.marks = []
     ·simp only [ht,hm,decide_true,Bool.true_and] at hform;refine hC.vc [] 60 ?_;simp [N.cells,ht,hm];refine hC.call [.can 0] (fun_ownRow (a:=[]) (b:=[]) (e:=9) (by simp) rfl (f153 tabs (n.attrs.map (·.1)) fun s hs=>by
       obtain ⟨p,hp,rfl⟩:=List.mem_map.1 hs;exact Nat.le_trans (z4 p hp).1 (by decide))) (by simp) ?_
      cases hr:rise (n.attrs.map (·.1)) with
      |false=>
       have:n.form=false:=(by rw [hform,hr];rfl);refine hC.vc [] 60 ?_;simp [this]
      |true=>
       rw [hr,Bool.true_and] at hform;refine hC.vc [] 60 ?_;simp [N.cells];refine go_loop (ι:={i:Nat // i≤n.kids.length∧N.form.go none n.kids=N.form.go (prevAt n.kids i) (n.kids.drop i)}) (fun x=>⟨[(1,.ptr (.loc 1) 0),(71,.pv (nodes n.kids)),(72,vI n.kids.length),(73,vI x.1)],[(.loc 1,some (.box 48 n.cells))]⟩)
        (fun x=>n.kids.length-x.1) ⟨0,by simp [prevAt]⟩ [] (by simp [N.cells,ht,hm]) fun x ih2=>?_
       obtain ⟨j,hj,hn2⟩:=x;simp only at hj hn2 ih2;refine hC.vc [] 60 ?_;by_cases hlj:j<n.kids.length
       ·have hw1:=wr64 ((j:Int)+1) (by omega);rw [List.drop_eq_getElem_cons hlj] at hn2;simp only [N.form.go] at hn2;simp [hlj,N.pv_eq,N.cells];refine hC.call [] (hrec n.kids[j] (by simp)) (by simp [N.av,N.cells]) ?_;cases hf:n.kids[j].form with
        |false=>
         rw [hf,Bool.false_and,Bool.false_and] at hn2;have:n.form=false:=(by rw [hform,hn2]);refine hC.vc [] 60 ?_;simp [this]
        |true=>
         rw [hf,Bool.true_and] at hn2;refine hC.vc [] 60 ?_;by_cases h0:0<j
         ·have hw2:=wr64 ((j:Int)-1) (by omega);have hj1:j-1<n.kids.length:=(by omega);have e1:((j:Int)-1)=((j-1:Nat):Int):=(by omega);have hp:prevAt n.kids j=some n.kids[j-1]:=by
           unfold prevAt;rw [if_neg (by omega),List.getElem?_eq_getElem hj1]
          rw [hp] at hn2;simp only at hn2;rw [e1] at hw2;simp [h0,hw2,e1,hj1,N.cells,N.pv_eq];refine hC.call [] (f154 tabs n.kids[j-1] n.kids[j]) (by simp [N.av,N.cells]) ?_;cases ha:alike n.kids[j-1] n.kids[j] with
          |true=>
           rw [ha] at hn2;have:n.form=false:=(by rw [hform,hn2];rfl);refine hC.vc [] 60 ?_;simp [this]
          |false=>
           rw [ha] at hn2;refine hC.vc [] 60 ?_;simp;exact go_to [] (ih2 ⟨j+1,hlj,by rw [prevAt_succ hlj,hn2];simp⟩ (by simp;omega)) (by simp [hw1,N.cells])
         ·have hj0:j=0:=(by omega);subst hj0;simp only [prevAt,if_true,Bool.true_and] at hn2;simp;exact go_to [] (ih2 ⟨1,hlj,by rw [hn2];simp [prevAt,List.getElem?_eq_getElem hlj]⟩ (by simp;omega)) (by simp [wr64 1 (by omega),N.cells])
       ·rw [List.drop_eq_nil_of_le (by omega)] at hn2;simp only [N.form.go] at hn2;have:n.form=true:=(by rw [hform,hn2]);simp [hlj,this]
     ·have:n.form=false:=(by rw [hform];simp [hm]);have hml:0<n.marks.length:=List.length_pos_iff.2 hm;refine hC.vc [] 60 ?_;simp [N.cells,ht,hml,this]
    ·have:n.form=false:=(by rw [hform];simp [ht]);refine hC.vc [] 60 ?_;simp [N.cells,ht,this]
termination_by SizeOf.sizeOf n
decreasing_by exact N.kids_lt hx
theorem f131 (n:N)(hw:n.wt≤100000):Fun Tryz.prog tabs 56 [n.av] [] (vB n.form) []:=f131L n (lims_of n hw)
set_option maxRecDepth 20000 in
theorem f132 (Gl:Granted)(n:N):Fun Tryz.prog Gl 57 [n.av] [] (vI n.deep) []:=by
 have hrec:∀x∈n.kids,Fun Tryz.prog Gl 57 [x.av] [] (vI x.deep) []:=fun x hx=>f132 Gl x;refine fun_of (T:=T3) (n:=22) (rs:=[.tmp 2]) Tryz.func57 (by kernel_rfl) rfl rfl rfl tok3 mixed (by simp) fun C hC=>?_;have hd:=N.deep_eq n;refine hC.vc [] 60 ?_;simp [N.av,N.cells];refine hC.call [] (f152 Gl n) (by simp [N.av,N.cells]) ?_;cases hk:n.isText with
 |true=>
  have hkind:n.kind=textK:=by simpa [N.isText] using hk
  rw [if_pos hkind] at hd;refine hC.vc [] 60 ?_;simp [hd]
 |false=>
  have hkind:¬n.kind=textK:=by simpa [N.isText] using hk
  rw [if_neg hkind] at hd;refine hC.vc [] 60 ?_;simp [N.cells];refine go_len 9 5 (n.kids.map N.pv) (by simp) fun hl=>?_;rw [List.length_map] at hl;refine go_loop (ι:={x:Nat × Int // x.1≤n.kids.length∧N.deep.go n.kids 0=N.deep.go (n.kids.drop x.1) x.2}) (fun x=>⟨[(3,vI x.1.2),(9,.pv (nodes n.kids)),(10,vI n.kids.length),(11,vI x.1.1)],[]⟩)
   (fun x=>n.kids.length-x.1.1) ⟨(0,0),by simp⟩ [] (by simp) fun x ih=>?_
  obtain ⟨⟨i,d⟩,hi,hn⟩:=x;simp only at hi hn ih;refine hC.vc [] 60 ?_;by_cases hlt:i<n.kids.length
  ·have hw1:=wr64 ((i:Int)+1) (by omega);rw [List.drop_eq_getElem_cons hlt] at hn;simp only [N.deep.go] at hn;simp [hlt,N.pv_eq];refine hC.call [] (hrec n.kids[i] (by simp)) (by simp [N.av,N.cells]) ?_;refine hC.vc [] 2 ?_;simp;obtain ⟨m,hm⟩:∃m,m=(if d<n.kids[i].deep then n.kids[i].deep else d):=⟨_,rfl⟩;rw [←hm] at hn;refine hC.max (k:=.i64) (a:=d) (b:=n.kids[i].deep) rfl rfl rfl (by simp) ?_;rw [show (if n.kids[i].deep > d then n.kids[i].deep else d)=m from hm.symm];refine hC.vc [] 60 ?_;simp;exact go_to [] (ih ⟨(i+1,_),hlt,hn⟩ (by simp;omega)) (by simp [hw1])
  ·rw [List.drop_eq_nil_of_le (by omega)] at hn;simp only [N.deep.go] at hn;simp [hlt,hd,hn]
termination_by SizeOf.sizeOf n
decreasing_by exact N.kids_lt hx
theorem f155k (Gl:Granted)(l:List N)(hrec:∀x∈l,Fun Tryz.prog Gl 58 [x.av] [] (vI x.size) []):Fun Tryz.prog Gl 32 [.pv (nodes l)] [] (vI (N.size.go l 0)) []:=by
 refine fun_of (T:=T3) (n:=18) (rs:=[.tmp 2]) Tryz.func32 (by kernel_rfl) rfl rfl rfl tok3 mixed (by simp) fun C hC=>?_;refine hC.vc [] 60 ?_;simp;refine go_len 0 5 (l.map N.pv) (by simp) fun hl=>?_;rw [List.length_map] at hl;refine go_loop (ι:={x:Nat × Int // x.1≤l.length∧N.size.go l 0=N.size.go (l.drop x.1) x.2}) (fun x=>⟨[(3,vI x.1.2),(6,.pv (nodes l)),(7,vI l.length),(8,vI x.1.1)],[]⟩)
  (fun x=>l.length-x.1.1) ⟨(0,0),by simp⟩ [] (by simp) fun x ih=>?_
 obtain ⟨⟨i,d⟩,hi,hn⟩:=x;simp only at hi hn ih;refine hC.vc [] 60 ?_;by_cases hlt:i<l.length
 ·have hw1:=wr64 ((i:Int)+1) (by omega);rw [List.drop_eq_getElem_cons hlt] at hn;simp only [N.size.go] at hn;simp [hlt,N.pv_eq];refine hC.call [] (hrec l[i] (by simp)) (by simp [N.av,N.cells]) ?_;refine hC.vc [] 60 ?_;simp;exact go_to [] (ih ⟨(i+1,_),hlt,hn⟩ (by simp;omega)) (by simp [hw1])
 ·rw [List.drop_eq_nil_of_le (by omega)] at hn;simp only [N.size.go] at hn;simp [hlt,hn]
set_option maxRecDepth 20000 in
theorem f133L (Gl:Granted)(n:N)(hw:n.lims):Fun Tryz.prog Gl 58 [n.av] [] (vI n.size) []:=by
 obtain ⟨z1,z2,z3,z4,z5,z6,z7,z8⟩:=N.limL hw;simp only [M47] at z1 z2 z3 z4;have hrec:∀x∈n.kids,Fun Tryz.prog Gl 58 [x.av] [] (vI x.size) []:=fun x hx=>f133L Gl x (z5 x hx);refine fun_of (T:=T3) (n:=12) (rs:=[.tmp 2]) Tryz.func58 (by kernel_rfl) rfl rfl rfl tok3 mixed (by simp) fun C hC=>?_;have hd:=N.size_eq n;refine hC.vc [] 60 ?_;simp [N.av,N.cells];refine hC.call [] (f152 Gl n) (by simp [N.av,N.cells]) ?_;cases hk:n.isText with
 |true=>
  have hkind:n.kind=textK:=by simpa [N.isText] using hk
  rw [if_pos hkind] at hd;refine hC.vc [] 60 ?_;simp [N.cells];refine hC.call [] (f149 Gl n.text (by omega)) (by simp) ?_;refine hC.vc [] 60 ?_;simp [hd]
 |false=>
  have hkind:¬n.kind=textK:=by simpa [N.isText] using hk
  rw [if_neg hkind] at hd;refine hC.vc [] 60 ?_;simp [N.cells];refine hC.call [] (f155k Gl n.kids hrec) (by simp) ?_;refine hC.vc [] 60 ?_;simp [hd]
termination_by SizeOf.sizeOf n
decreasing_by exact N.kids_lt hx
theorem f133 (Gl:Granted)(n:N)(hw:n.wt≤100000):Fun Tryz.prog Gl 58 [n.av] [] (vI n.size) []:=f133L Gl n (lims_of n hw)
theorem f109L (n:N)(hw:n.lims):Fun Tryz.prog tabs 26 [n.av] [] (vI n.check) []:=by
 refine fun_of (T:=T3) (n:=15) (rs:=[.tmp 2]) Tryz.func26 (by kernel_rfl) rfl rfl rfl tok3 mixed (by simp) fun C hC=>?_;refine hC.vc [] 60 ?_;simp [N.av,N.cells];refine hC.call [] (f131L n hw) (by simp [N.av,N.cells]) ?_;cases hf:n.form with
 |false=>
  have:n.check=2:=by simp [N.check,hf]
  refine hC.vc [] 60 ?_;simp [this]
 |true=>
  refine hC.vc [] 60 ?_;simp [N.cells];refine hC.call [] (f132 tabs n) (by simp [N.av,N.cells]) ?_;by_cases h1:40<n.deep
  ·have:n.check=4:=(by simp [N.check,hf,h1]);refine hC.vc [] 60 ?_;simp [h1,this]
  ·refine hC.vc [] 60 ?_;simp [N.cells,h1];refine hC.call [] (f133L tabs n hw) (by simp [N.av,N.cells]) ?_;by_cases h2:4000<n.size
   ·have:n.check=5:=(by simp [N.check,hf,h1,h2]);refine hC.vc [] 60 ?_;simp [h2,this]
   ·have:n.check=0:=(by simp [N.check,hf,h1,h2]);refine hC.vc [] 60 ?_;simp [h2,this]
theorem f109 (n:N)(hw:n.wt≤100000):Fun Tryz.prog tabs 26 [n.av] [] (vI n.check) []:=f109L n (lims_of n hw)
theorem join_sep (s:UInt8)(l:List Bs):Lib.join l [s]=sepBy s l:=by
 cases l with
 |nil=>rfl
 |cons x r=>rw [Lib.join_cons];simp [sepBy,sepTail,Lib.joinTail,List.flatMap]
theorem joinB_bs (l:List ByteArray)(s:UInt8):joinB l ⟨#[s]⟩=bs (sepBy s (l.map (·.data.toList))):=by
 unfold joinB bs;rw [←join_sep]
end Go.Proofs.D
namespace Go.Proofs.D
open Go Go.Abs Go.RowKit
def adOf (r:Nm):Bool→AV
 |false=>nilPtr
 |true=>.ptr r 0
theorem adOf_or (b:Bool):adOf (.arg 0) b=nilPtr∨adOf (.arg 0) b=ptr0:=by cases b<;>simp [adOf]
end Go.Proofs.D
namespace Go.Proofs.D
open Go Go.Abs Go.RowKit Go.ChangeShapes Go.WideShapes
section
variable {H:Type} {enc:TypeId × Value→H} {W:World}
def Fits (t:TypeId)(d:DataW H):Prop:=∀k∈d.weights Tryz.prog t,k≤reachBytes
theorem weights_mem_all {e:TypeId}:∀ {ds:List (DataW H)} {d:DataW H},d∈ds→∀k∈d.weights Tryz.prog e,k∈DataW.weightsAll Tryz.prog e ds
 |x::ds,d,hd,k,hk=>by
  simp only [DataW.weightsAll,List.mem_append];rcases List.mem_cons.1 hd with rfl|hd
  ·exact .inl hk
  ·exact .inr (weights_mem_all hd k hk)
theorem fits_slice {t e:TypeId}(ht:Tryz.prog.underlying t=some (.slice e)){es sp:List (DataW H)}(h:Fits t (.slice es sp)):∀d∈es,Fits e d:=fun d hd k hk=>by
 refine h k ?_;simp only [DataW.weights,ht,List.mem_cons,List.mem_append];exact .inr (.inl (weights_mem_all hd k hk))
theorem fits_struct {t:TypeId}{fs:Array Field}(ht:Tryz.prog.underlying t=some (.struct fs)){ps:List (DataW H)}(h:Fits t (.agg ps)){j:Nat}{f:Field}{d:DataW H}(hf:fs[j]?=some f)(hd:ps[j]?=some d):Fits f.type d:=fun k hk=>by
 refine h k ?_;simp only [DataW.weights,ht];exact DataW.weights_mem_each (j:=j) (by simp [hf]) hd k hk
theorem str_fits {n:Nat}{cs:List Value}{x:DataW H × List MemPlace}(h:DataW.trod enc Tryz.prog W 0 (fun _=>true) true n 9 cs=some x)(hf:Fits 9 x.1):∃s:ByteArray,cs = [.string s]∧s.size≤M47:=by
 obtain ⟨s,h1,rfl,h2⟩:=DataW.trod_string Tryz.underlying9 h;refine ⟨s,h1,?_⟩;have:=hf s.data.toList.length (by simp [DataW.weights]);have h3:=reachBytes_lt;rw [bsz] at this;have e47:M47=140737488355328:=rfl;omega
theorem cells116:Tryz.prog.cellsOf 56=2:=by kernel_rfl
theorem cells79:Tryz.prog.cellsOf 48=5:=by kernel_rfl
theorem cells42:Tryz.prog.cellsOf 23=1:=by kernel_rfl
theorem cells77:Tryz.prog.cellsOf 45=1:=by kernel_rfl
theorem cells68:Tryz.prog.cellsOf 46=1:=by kernel_rfl
theorem again116 (n:Nat):Again H enc Tryz.prog n 56:=again_struct Tryz.underlying56 n fun m hm i f hf=>by
 match i,hf with
 |0,hf=>simp at hf;subst hf;exact again9 m
 |1,hf=>simp at hf;subst hf;exact again9 m
 |i+2,hf=>simp at hf
theorem again77 (n:Nat):Again H enc Tryz.prog n 45:=again_slice Tryz.underlying45 (by rw [cells116];decide) n fun m _=>again116 m
theorem again79 (n:Nat):Again H enc Tryz.prog n 48:=by
 induction n using Nat.strongRecOn with
 |_ n ih=>
  refine again_struct Tryz.underlying48 n fun m hm i f hf=>?_
  match i,hf with
  |0,hf=>simp at hf;subst hf;exact again9 m
  |1,hf=>simp at hf;subst hf;exact again9 m
  |2,hf=>simp at hf;subst hf;exact again42 m
  |3,hf=>simp at hf;subst hf;exact again77 m
  |4,hf=>simp at hf;subst hf;exact again_slice Tryz.underlying46 (by rw [cells79];decide) m fun k hk=>ih k (by omega)
  |i+5,hf=>simp at hf
instance:Inhabited N:=⟨.mk ⟨#[]⟩ ⟨#[]⟩ [] [] []⟩
instance:Inhabited Ent:=⟨⟨false,⟨#[]⟩,[]⟩⟩
theorem hoe_of {t e:TypeId}(ht:Tryz.prog.underlying t=some (.slice e)){x:DataW H × List MemPlace}(hf:Fits t x.1):∀es sp,x.1 = .slice es sp→∀d∈es,Fits e d:=fun es sp hx d hd=>fits_slice ht (hx ▸ hf) d hd
theorem reads42 (n:Nat)(cs:List Value)(x:DataW H × List MemPlace)(h:DataW.trod enc Tryz.prog W 0 (fun _=>true) true n 23 cs=some x)(hf:Fits 23 x.1):∃(l:List ByteArray) (v:Value),cs = [v]∧(∀s∈l,s.size≤M47)∧RepP W (allOf W) (strs l) v:=by
 obtain ⟨l,v,h1,h2,h3,_⟩:=reads_sliceG (e:=9) (sz:=1) Tryz.underlying23 cells9 (by decide) (fun s:ByteArray=>[.val (.string s)]) (fun s=>s.size≤M47) (Fits 9) n (fun m _ cs x hx hfx=>by
  obtain ⟨s,rfl,hs⟩:=str_fits hx hfx;refine ⟨s,hs,rfl,fun j c v h3 h4=>?_⟩
  match j,h3,h4 with
  |0,h3,h4=>simp at h3 h4;subst h3 h4;exact .val _ rfl) cs x h (hoe_of Tryz.underlying23 hf)
 exact ⟨l,v,h1,h2,h3⟩
theorem parts_of {t:TypeId}{fs:Array Field}(ht:Tryz.prog.underlying t=some (.struct fs)){n:Nat}{cs:List Value}{x:DataW H × List MemPlace}(h:DataW.trod enc Tryz.prog W 0 (fun _=>true) true n t cs=some x)(hf:Fits t x.1) :
 cs.length=Tryz.prog.cellsOf t∧∃m,n=m+1∧∀(i:Nat) (f:Field),fs[i]?=some f→∃y,DataW.trod enc Tryz.prog W 0 (fun _=>true) true m f.type ((cs.drop f.offset).take (Tryz.prog.cellsOf f.type))=some y∧Fits f.type y.1:=by
 obtain ⟨xs,m,rfl,rfl,hl,hx,hi⟩:=DataW.trod_struct ht h;refine ⟨hl,m,rfl,fun i f hif=>?_⟩;have hlt:i<xs.length:=by rw [hx];exact (Array.getElem?_eq_some_iff.1 hif).1
 have h1:=hi i f hif;rw [List.getElem?_eq_getElem hlt] at h1;exact ⟨xs[i],h1,fits_struct ht hf hif (by simp [hlt])⟩
set_option maxRecDepth 20000 in
theorem reads77 (n:Nat)(cs:List Value)(x:DataW H × List MemPlace)(h:DataW.trod enc Tryz.prog W 0 (fun _=>true) true n 45 cs=some x)(hf:Fits 45 x.1):∃(l:List (ByteArray × ByteArray)) (v:Value),cs = [v]∧(∀p∈l,p.1.size≤M47∧p.2.size≤M47)∧RepP W (allOf W) (pairs l) v:=by
 obtain ⟨l,v,h1,h2,h3,_⟩:=reads_sliceG (e:=56) (sz:=2) Tryz.underlying45 cells116 (by decide) (fun p:ByteArray × ByteArray=>[.val (.string p.1),.val (.string p.2)]) (fun p=>p.1.size≤M47∧p.2.size≤M47) (Fits 56) n (fun m _ cs x hx hfx=>by
  obtain ⟨hl,k,_,hp⟩:=parts_of Tryz.underlying56 hx hfx;rw [cells116] at hl
  match cs,hl with
  |[a,b],_=>
   obtain ⟨y0,g0,f0⟩:=hp 0 _ rfl;obtain ⟨y1,g1,f1⟩:=hp 1 _ rfl
   replace g0:DataW.trod enc Tryz.prog W 0 (fun _=>true) true k 9 [a]=some y0:=by simpa [cells9] using g0
   replace g1:DataW.trod enc Tryz.prog W 0 (fun _=>true) true k 9 [b]=some y1:=by simpa [cells9] using g1
   obtain ⟨s,hs,hs'⟩:=str_fits g0 f0;obtain ⟨t,ht,ht'⟩:=str_fits g1 f1;cases hs;cases ht;refine ⟨(s,t),⟨hs',ht'⟩,rfl,fun j c v h3 h4=>?_⟩
   match j,h3,h4 with
   |0,h3,h4=>simp at h3 h4;subst h3 h4;exact .val _ rfl
   |1,h3,h4=>simp at h3 h4;subst h3 h4;exact .val _ rfl) cs x h (hoe_of Tryz.underlying45 hf)
 exact ⟨l,v,h1,h2,h3⟩
theorem npv_len (e:N):e.pv.length=5:=by rw [N.pv_eq];rfl
set_option maxRecDepth 20000 in
theorem reads79 (n:Nat):∀(cs:List Value) (x:DataW H × List MemPlace),DataW.trod enc Tryz.prog W 0 (fun _=>true) true n 48 cs=some x→Fits 48 x.1→
 ∃e:N,e.small∧cs.length=5∧∀(j:Nat) (c:PV) (v:Value),e.pv[j]?=some c→cs[j]?=some v→RepP W (allOf W) c v:=by
 induction n using Nat.strongRecOn with
 |_ n ih=>
  intro cs x h hf;obtain ⟨hl,m,rfl,hp⟩:=parts_of Tryz.underlying48 h hf;rw [cells79] at hl
  match cs,hl with
  |[a,b,c,d,e],_=>
   obtain ⟨y0,g0,f0⟩:=hp 0 _ rfl;obtain ⟨y1,g1,f1⟩:=hp 1 _ rfl;obtain ⟨y2,g2,f2⟩:=hp 2 _ rfl;obtain ⟨y3,g3,f3⟩:=hp 3 _ rfl;obtain ⟨y4,g4,f4⟩:=hp 4 _ rfl
   replace g0:DataW.trod enc Tryz.prog W 0 (fun _=>true) true m 9 [a]=some y0:=by simpa [cells9] using g0
   replace g1:DataW.trod enc Tryz.prog W 0 (fun _=>true) true m 9 [b]=some y1:=by simpa [cells9] using g1
   replace g2:DataW.trod enc Tryz.prog W 0 (fun _=>true) true m 23 [c]=some y2:=by simpa [cells42] using g2
   replace g3:DataW.trod enc Tryz.prog W 0 (fun _=>true) true m 45 [d]=some y3:=by simpa [cells77] using g3
   replace g4:DataW.trod enc Tryz.prog W 0 (fun _=>true) true m 46 [e]=some y4:=by simpa [cells68] using g4
   obtain ⟨s,q0,s0⟩:=str_fits g0 f0;obtain ⟨t,q1,s1⟩:=str_fits g1 f1;obtain ⟨mk,v2,q2,s2,r2⟩:=reads42 m _ _ g2 f2;obtain ⟨at',v3,q3,s3,r3⟩:=reads77 m _ _ g3 f3;obtain ⟨l,v4,q4,s4,r4,_⟩:=reads_sliceG (e:=48) (sz:=5) Tryz.underlying46 cells79 (by decide) N.pv N.small (Fits 48) m (fun k hk cs x hx hfx=>by
    obtain ⟨e,a1,a2,a3⟩:=ih k (by omega) cs x hx hfx;exact ⟨e,a1,npv_len e,a3⟩) _ _ g4 (hoe_of Tryz.underlying46 f4)
   cases q0;cases q1;cases q2;cases q3;cases q4;refine ⟨.mk s t mk at' l,(N.small_eq _).2 ⟨s0,s1,s2,s3,s4⟩,rfl,fun j c v h3 h4=>?_⟩;rw [N.pv_eq] at h3
   match j,h3,h4 with
   |0,h3,h4=>simp at h3 h4;subst h3 h4;exact .val _ rfl
   |1,h3,h4=>simp at h3 h4;subst h3 h4;exact .val _ rfl
   |2,h3,h4=>simp at h3 h4;subst h3 h4;exact r2
   |3,h3,h4=>simp at h3 h4;subst h3 h4;exact r3
   |4,h3,h4=>simp at h3 h4;subst h3 h4;exact r4
theorem fits_of {ts:List TypeId}{ds:List (DataW H)}(h:(DataW.weightsEach Tryz.prog ts ds).all (·≤reachBytes)=true){j:Nat}{t:TypeId}{d:DataW H}(ht:ts[j]?=some t)(hd:ds[j]?=some d):Fits t d:=fun k hk=>by
 have:=List.all_eq_true.1 h _ (DataW.weights_mem_each ht hd k hk);simpa using this
end
end Go.Proofs.D
