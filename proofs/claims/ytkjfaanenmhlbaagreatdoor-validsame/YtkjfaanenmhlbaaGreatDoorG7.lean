/-
  WHERE TWO PART (dfa.apart).
-/
import Derived.Test.YtkjfaanenmhlbaaGreatDoorZ5
import Derived.Test.YtkjfaanenmhlbaaGreatDoorH21
import Derived.Test.YtkjfaanenmhlbaaGreatDoorAbsMB
import Derived.Test.YtkjfaanenmhlbaaGreatDoorG3
import Derived.Test.YtkjfaanenmhlbaaGreatDoorG12
set_option linter.unusedVariables false
set_option linter.unusedSimpArgs false
namespace Go.Proofs.D
open Go Go.Abs Go.RowKit
abbrev wayP (q:Way):List PV:=[.val (.int .i64 q.1.1),.val (.int .i64 q.1.2),namesV q.2]
abbrev waysB (w:List Way):Blk:=.row 264 3 (w.map wayP)
def metP (z:Bool)(w:List (Int × Int)):List (Int × Int):=if z then (0,0)::(-1,-1)::w else (-1,-1)::(0,0)::w
def metO (z:Bool)(w:List (Int × Int)):Ents:=(metP z w).map fun p=>(pairK p,vI 1)
def metW (z:Bool)(w:List Way):Ents:=metO z ((w.drop 1).map (·.1))
theorem metW_iff (z:Bool){w:List Way}(h0:w[0]?=some ((0,0),[]))(p:Int × Int):p∈metP z ((w.drop 1).map (·.1))↔p=(-1,-1)∨p∈w.map (·.1):=by
 cases w with
 |nil=>simp at h0
 |cons q w=>
  simp at h0;subst h0;cases z<;>simp [metP]<;>constructor<;>rintro (h|h|h)<;>simp [h]
theorem metW_mem (z:Bool){w:List Way}(h0:w[0]?=some ((0,0),[])){p:Int × Int}(h:p=(-1,-1)∨p∈w.map (·.1)):(pairK p,vI 1)∈metW z w:=List.mem_map.2 ⟨p,(metW_iff z h0 p).2 h,rfl⟩
theorem metW_not (z:Bool){w:List Way}(h0:w[0]?=some ((0,0),[])){p:Int × Int}(h:¬(p=(-1,-1)∨p∈w.map (·.1))):∀q∈metW z w,q.1≠pairK p:=fun q hq e=>by
 obtain ⟨p',hp',rfl⟩:=List.mem_map.1 hq;exact h ((metW_iff z h0 p).1 (pairK_inj e ▸ hp'))
theorem metW_app (z:Bool){w:List Way}(h0:0<w.length)(q:Way):metW z (w++[q])=metW z w++[(pairK q.1,vI 1)]:=by
 unfold metW;rw [List.drop_append_of_le_length (by omega),List.map_append];cases z<;>simp [metO,metP]
theorem st_small {d:Au}{s:Int}(h:d.st s)(hn:d.next.length≤9223372036854775807):small64 s:=by
 unfold small64;rcases h with rfl|⟨h0,h1⟩
 ·decide
 ·omega
theorem hz3':∃z,(∀w,(zeroValue 3).run Tryz.prog w = .ok z w)∧∀(w:World) (F:Nat→Prop) (hd:Nm→Hd),Rep w F hd (vI 0) z:=⟨_,Tryz.zeroValue3,fun _ _ _=>rep_val rfl⟩
noncomputable def code50 (id:Nat):Code:=match Tryz.f125.body with
 |some c=>seqAt 60 id c
 |none=>.ret
section
variable {Gl:Granted} {a b:Au} {La Lb:Nat→Row→Prop} {e f:E}
set_option maxRecDepth 20000 in
set_option maxHeartbeats 4000000 in
theorem h50b (ha:Least a La)(hb:Least b Lb)(he:e.cnt≤24)(hf:f.cnt≤24)(hoe:e.ok=true)(hof:f.ok=true)(h1:∀w,La 0 w↔e.L w)(h2:∀w,Lb 0 w↔f.L w)(hna:a.next.length≤9223372036854775807)(hnb:b.next.length≤9223372036854775807)(both z:Bool)(l:List ByteArray)(hll:l.length≤2000)(hsort:l.Pairwise blt)(hmem:∀x,x∈l↔x∈a.names∨x∈b.names)
 {C:Ctx} (hC:Rd C Tryz.prog Gl T5 114 [.tmp 6,.tmp 7] (.tup [.pv (namesV (apartR e f both).1),vB (apartR e f both).2]) (keyed 0 [])) :
 Go.Abs.Go C (.top [.code (code50 4)] ⟨[(2,vB both),(3,.ptr (.loc 3) 0),(4,.ptr (.loc 4) 0),(8,.pv (namesV l)),(9,.own (.can 0)),(10,.hmap (.can 1))],[(.loc 3,some (.box 137 a.cells)),(.loc 4,some (.box 137 b.cells)),(.can 0,some (waysB [((0,0),[])])),(.can 1,some (.gen (mapC Tryz.prog 262 (metO z []))))]⟩):=by
 have hbnd:=fun (i:Nat) (done:List ByteArray) (ways:List Way) (h:Ways a b (badP a b both) l i done ways)=>ways_len h ha hb he hf hoe hof h1 h2;have hfound:=fun (i:Nat) (ways:List Way) (p:Way) (h:Ways a b (badP a b both) l i [] ways) (hp:ways[i]?=some p) (hbad:badP a b both p.1.1 p.1.2=true)=>apart_found ha hb h1 h2 (names:=l) hmem h hp hbad;have hnone:=fun (i:Nat) (ways:List Way) (h:Ways a b (badP a b both) l i [] ways) (hi:ways.length≤i)=>apart_none ha hb h1 h2 (names:=l) hmem h hi;obtain ⟨B,hB,hB2⟩:∃B,PB=B∧B≤3200000000000:=⟨_,rfl,Nat.le_refl _⟩;rw [hB] at hbnd;show Go.Abs.Go C (.top [.code (.seq _ _)] _);refine hC.til [6] [] 60 ?_;simp;refine go_loop (ι:={x:Nat × List Way // x.1≤x.2.length∧Ways a b (badP a b both) l x.1 [] x.2}) (fun x=>⟨[(2,vB both),(3,.ptr (.loc 3) 0),(4,.ptr (.loc 4) 0),(8,.pv (namesV l)),(9,.own (.can 0)),(10,.hmap (.can 1)),(11,.fn (.func 185) [] []),(12,vI x.1.1)],
  [(.loc 3,some (.box 137 a.cells)),(.loc 4,some (.box 137 b.cells)),(.can 0,some (waysB x.1.2)),(.can 1,some (.gen (mapC Tryz.prog 262 (metW z x.1.2))))]⟩)
  (fun x=>B-x.1.1) ⟨(0,[((0,0),[])]),by simp,ways_start a b _ l⟩ [(.can 0,.nm (.can 0)),(.can 1,.nm (.can 1))] (by simp [Au.cells,metW]) fun x ih=>?_
 obtain ⟨⟨i,ways⟩,hi,hW⟩:=x;simp only at hi hW ih;have hwl:=hbnd i [] ways hW;have hrowl:=ways_row hW;by_cases hlt:i<ways.length
 ·obtain ⟨q,hq⟩:∃q,ways[i]=q:=⟨_,rfl⟩;have hq':ways[i]?=some q:=by rw [List.getElem?_eq_getElem hlt,hq]
  have hat:=(hW.at' q (List.mem_of_getElem? hq')).1;have hsx:=(sem_run ha.sem.toSem0 q.2 (st0 ha.sem.toSem0)).1;have hsy:=(sem_run hb.sem.toSem0 q.2 (st0 hb.sem.toSem0)).1;have hql:=hrowl i q hq';obtain ⟨⟨x,y⟩,w⟩:=q;simp only [pr,Prod.mk.injEq] at hat hsx hsy hql;rw [←hat.1] at hsx;rw [←hat.2] at hsy;refine hC.til [9] [] 60 ?_;simp [hlt,hq,Au.cells];refine hC.drawn (by kernel_rfl) (by simp) ?_;refine hC.go [] 60 ?_;simp;refine hC.call [] (h100 Gl a x) (by simp [Au.av,Au.cells]) ?_;refine hC.go [] 60 ?_;simp;refine hC.call [] (h100 Gl b y) (by simp [Au.av,Au.cells]) ?_;refine hC.til [1010] [] 60 ?_;simp;refine go_cut (ι:=PLift (badP a b both x y=false)) (fun _=>⟨[(2,vB both),(3,.ptr (.loc 3) 0),(4,.ptr (.loc 4) 0),(8,.pv (namesV l)),(9,.own (.can 0)),(10,.hmap (.can 1)),(11,.fn (.func 185) [] []),(12,vI i),(13,.ptr (.loc 13) 0)],
   [(.loc 3,some (.box 137 a.cells)),(.loc 4,some (.box 137 b.cells)),(.can 0,some (waysB ways)),(.can 1,some (.gen (mapC Tryz.prog 262 (metW z ways)))),(.loc 13,some (.box 264 [vI x,vI y,.pv (namesV w)]))]⟩) (fun zb=>?_) (fun tail=>?_)
  ·obtain ⟨hgood⟩:=zb;refine hC.til [13] [] 60 ?_;simp;refine go_loop (ι:={zz:Nat × List Way // zz.1≤l.length∧Ways a b (badP a b both) l i (l.take zz.1) zz.2∧zz.2[i]?=some ((x,y),w)}) (fun zz=>⟨[(2,vB both),(3,.ptr (.loc 3) 0),(4,.ptr (.loc 4) 0),(8,.pv (namesV l)),(9,.own (.can 0)),(10,.hmap (.can 1)),(11,.fn (.func 185) [] []),(12,vI i),(13,.ptr (.loc 13) 0),(73,.pv (namesV l)),(74,vI l.length),(75,vI zz.1.1)],
    [(.loc 3,some (.box 137 a.cells)),(.loc 4,some (.box 137 b.cells)),(.can 0,some (waysB zz.1.2)),(.can 1,some (.gen (mapC Tryz.prog 262 (metW z zz.1.2)))),(.loc 13,some (.box 264 [vI x,vI y,.pv (namesV w)]))]⟩)
    (fun zz=>l.length-zz.1.1) ⟨(0,ways),by simp,by simpa using hW,hq'⟩ [(.can 0,.nm (.can 0)),(.can 1,.nm (.can 1))] (by simp [Au.cells]) fun zz ihk=>?_
   obtain ⟨⟨k,ws⟩,hk,hWk,hwi⟩:=zz;simp only at hk hWk hwi ihk;have hwsl:=hbnd i _ ws hWk;by_cases hkl:k<l.length
   ·have hwk:=wr64 ((k:Int)+1) (by omega);refine hC.go [] 60 ?_;simp [hkl];refine hC.drawn (by kernel_rfl) (by simp [Au.cells]) ?_;refine hC.go [] 60 ?_;simp [Au.cells];refine hC.call [] (h18 Gl a ha.sem.row x l[k]) (by simp [Au.av,Au.cells]) ?_;refine hC.go [] 60 ?_;simp [Au.cells];refine hC.call [] (h18 Gl b hb.sem.row y l[k]) (by simp [Au.av,Au.cells]) ?_;refine hC.til [16] [] 60 ?_;simp [Au.cells];have hx1:=st_small (sem_step ha.sem.toSem0 hsx l[k]).1 hna;have hy1:=st_small (sem_step hb.sem.toSem0 hsy l[k]).1 hnb;obtain ⟨kl,hkey⟩:=key174 (p:=stp2 a b (x,y) l[k]) hx1 hy1;have hst:stp2 a b (x,y) l[k]=(a.stp x l[k],b.stp y l[k]):=rfl;have hsplit:(l.take k++l[k]::l.drop (k+1)).Pairwise blt:=(by rw [←List.drop_eq_getElem_cons hkl,List.take_append_drop];exact hsort);have htake:l.take (k+1)=l.take k++[l[k]]:=(by rw [List.take_add_one,List.getElem?_eq_getElem hkl];rfl);refine hC.go [] 60 ?_;simp [Au.cells];by_cases hm:stp2 a b (x,y) l[k]=(-1,-1)∨stp2 a b (x,y) l[k]∈ws.map (·.1)
    ·have hold:=ways_old hWk hsplit hwi hgood hm;rw [←htake] at hold;refine hC.getC Tryz.underlying266 keyed174 (.can 1) (zero:=vI 0) (l:=metW z ws) hz3' (vI 1) rfl (by simp;exact key_pair _ _) hkey (.inr ⟨vI 1,metW_mem z hWk.first hm,rfl⟩) (by simp) ?_;refine hC.go [] 60 ?_;simp [hkl];exact go_to [(.can 0,.nm (.can 0)),(.can 1,.nm (.can 1))] (ihk ⟨(k+1,ws),hkl,hold,hwi⟩ (by simp;omega)) (by simp [hwk,Au.cells])
    ·refine hC.getC Tryz.underlying266 keyed174 (.can 1) (zero:=vI 0) (l:=metW z ws) hz3' (vI 0) rfl (by simp;exact key_pair _ _) hkey (.inl ⟨metW_not z hWk.first hm,rfl⟩) (by simp) ?_;refine hC.til [17] [] 60 ?_;simp;have hw11:wr .i64 1=1:=wr64 1 (by omega);refine go_cut1 (ι:=Unit) (fun _=>⟨[(2,vB both),(3,.ptr (.loc 3) 0),(4,.ptr (.loc 4) 0),(8,.pv (namesV l)),(9,.own (.can 0)),(10,.hmap (.can 1)),(11,.fn (.func 185) [] []),(12,vI i),(13,.ptr (.loc 13) 0),(17,vS l[k]),(18,.ptr (.loc 18) 0),(73,.pv (namesV l)),(74,vI l.length),(75,vI k)],
      [(.loc 3,some (.box 137 a.cells)),(.loc 4,some (.box 137 b.cells)),(.can 0,some (waysB ws)),(.can 1,some (.gen (mapC Tryz.prog 262 (metW z ws++[(pairK (stp2 a b (x,y) l[k]),vI 1)])))),(.loc 13,some (.box 264 [vI x,vI y,.pv (namesV w)])),(.loc 18,some (.box 262 [vI (a.stp x l[k]),vI (b.stp y l[k])]))]⟩) (fun _=>?_) (fun tail3=>?_)
     ·have hwb:w.length≤8000000000000:=(by omega);refine hC.drawn (by kernel_rfl) (by simp [Au.cells]) ?_;refine hC.go [] 60 ?_;simp [Au.cells];refine hC.callD [] 106 (h101 Gl w hwb) (by simp) ?_;refine hC.go [] 3 ?_;simp;refine ⟨⟨by omega,by omega⟩,?_⟩;refine hC.lay (t:=109) (r:=.loc 109) (e:=9) (sz:=1) (es:=(w++[l[k]]).map fun s=>[PV.val (.string s)]) (y:=.agg [vI (a.stp x l[k]),vI (b.stp y l[k]),.pv (namesV (w++[l[k]]))]) (by simp [Op.operands]) (by simp) ?_;refine hC.go [] 60 ?_;simp;refine ⟨⟨by omega,by omega⟩,?_⟩;have hm1:stp2 a b (x,y) l[k]≠(-1,-1):=fun h=>hm (.inl h);have hm2:stp2 a b (x,y) l[k]∉ws.map (·.1):=fun h=>hm (.inr h);have hnew:=ways_new hWk hsplit (List.getElem_mem hkl) hwi hgood hm1 hm2;rw [←htake] at hnew;have hwi2:(ws++[(stp2 a b (x,y) l[k],w++[l[k]])])[i]?=some ((x,y),w):=(by rw [List.getElem?_append_left (List.getElem?_eq_some_iff.1 hwi).1];exact hwi);have hma:=metW_app z (ways_pos hWk) (stp2 a b (x,y) l[k],w++[l[k]]);rw [hst] at hma;exact go_to [(.can 0,.nm (.loc 112)),(.can 1,.nm (.can 1))] (ihk ⟨(k+1,ws++[(stp2 a b (x,y) l[k],w++[l[k]])]),hkl,hnew,hwi2⟩ (by simp;omega)) (by simp [hwk,Au.cells,hma,hst])
     ·refine go_to (M:=⟨[(2,vB both),(3,.ptr (.loc 3) 0),(4,.ptr (.loc 4) 0),(8,.pv (namesV l)),(9,.own (.can 0)),(10,.hmap (.can 1)),(11,.fn (.func 185) [] []),(12,vI i),(13,.ptr (.loc 13) 0),(17,vS l[k]),(18,.ptr (.loc 18) 0),(73,.pv (namesV l)),(74,vI l.length),(75,vI k)],
      [(.loc 3,some (.box 137 a.cells)),(.loc 4,some (.box 137 b.cells)),(.can 0,some (waysB ws)),(.can 1,some (.gen (mapC Tryz.prog 262 (metW z ws)))),(.loc 13,some (.box 264 [vI x,vI y,.pv (namesV w)])),(.loc 18,some (.box 262 [vI (a.stp x l[k]),vI (b.stp y l[k])]))]⟩) [(.can 0,.nm (.can 0)),(.can 1,.nm (.can 1))] ?_ (by simp [Au.cells])
      refine go_all hC.mixed ?_
      repeat' first
       |(refine ra_end (by decide +kernel) ?_;refine go_to [(.can 0,.nm (.can 0)),(.can 1,.nm (.can 1))] (tail3 ()) ?_;simp [Au.cells];done)
       |(refine ra_ready [0,1] (by decide +kernel) (by simp) ?_;simp only [List.mem_cons,List.not_mem_nil,or_false,forall_eq_or_imp,forall_eq])
       |(refine ra_ready [1] (by decide +kernel) (by simp) ?_;simp only [List.mem_cons,List.not_mem_nil,or_false,forall_eq_or_imp,forall_eq])
       |(refine ra_ready [0] (by decide +kernel) (by simp) ?_;simp only [List.mem_cons,List.not_mem_nil,or_false,forall_eq_or_imp,forall_eq])
       |(refine ra_ready [2,4] (by decide +kernel) (by simp) ?_;simp only [List.mem_cons,List.not_mem_nil,or_false,forall_eq_or_imp,forall_eq])
       |(refine ra_ready [3,4] (by decide +kernel) (by simp) ?_;simp only [List.mem_cons,List.not_mem_nil,or_false,forall_eq_or_imp,forall_eq])
       |(refine ra_ready [2,5] (by decide +kernel) (by simp) ?_;simp only [List.mem_cons,List.not_mem_nil,or_false,forall_eq_or_imp,forall_eq])
       |(refine ra_ready [4] (by decide +kernel) (by simp) ?_;simp only [List.mem_cons,List.not_mem_nil,or_false,forall_eq_or_imp,forall_eq])
       |(refine ra_ready [3,5] (by decide +kernel) (by simp) ?_;simp only [List.mem_cons,List.not_mem_nil,or_false,forall_eq_or_imp,forall_eq])
       |(refine ra_ready [2] (by decide +kernel) (by simp) ?_;simp only [List.mem_cons,List.not_mem_nil,or_false,forall_eq_or_imp,forall_eq])
       |(refine ra_ready [5] (by decide +kernel) (by simp) ?_;simp only [List.mem_cons,List.not_mem_nil,or_false,forall_eq_or_imp,forall_eq])
       |(refine ra_ready [3] (by decide +kernel) (by simp) ?_;simp only [List.mem_cons,List.not_mem_nil,or_false,forall_eq_or_imp,forall_eq])
       |(refine ra_ready [6] (by decide +kernel) (by simp) ?_;simp only [List.mem_cons,List.not_mem_nil,or_false,forall_eq_or_imp,forall_eq])
       |refine And.intro ?_ ?_
       |(refine hC.raOp (fp:=[]) (A:=⟨.hmap (.can 1),[]⟩) rfl ⟨rfl,rfl,rfl⟩ ?_ ?_;(· simp [news]);simp)
       |(refine hC.raOp (fp:=[(.loc 18,.box 262 [vI (a.stp x l[k]),vI (b.stp y l[k])])]) (A:=⟨.agg [vI (a.stp x l[k]),vI (b.stp y l[k])],[]⟩) rfl ⟨rfl,rfl,rfl⟩ ?_ ?_;(· simp [news]);simp)
       |(refine hC.raOp (fp:=[]) (A:=⟨vI 1,[]⟩) rfl ?_ ?_ ?_;(· simp [hw11]);(· simp [news]);simp)
       |(refine hC.raOp (fp:=[]) (A:=⟨vI (metW z ws).length,[]⟩) rfl ⟨rfl,rfl,rfl⟩ ?_ ?_;(· simp [news]);simp)
       |(refine hC.raGet Tryz.underlying266 keyed174 (.can 1) (zero:=vI 0) (l:=metW z ws) hz3' (vI 0) rfl rfl hkey (.inl ⟨metW_not z hWk.first hm,rfl⟩) ?_ ?_ ?_;rotate_left 1;(· simp);rotate_left 1;(· (simp;exact key_pair _ _));simp)
       |(refine hC.raGetD Tryz.underlying266 keyed174 (.can 1) (zero:=vI 0) (l:=metW z ws) (p:=(pairK (stp2 a b (x,y) l[k]),vI 0)) hz3' (vI 0) rfl rfl hkey (.inr ⟨vI 0,List.mem_append.2 (.inr (List.mem_singleton.2 rfl)),rfl⟩) ?_ ?_ ?_;rotate_left 1;(· simp);rotate_left 1;(· (simp;exact key_pair _ _));simp)
       |(refine hC.raEntry (l:=metW z ws) (zero:=vI 0) (z:=.int .i64 0) Tryz.underlying266 keyed174 (.can 1) Tryz.zeroValue3 (fun _ _ _=>rep_val rfl) rfl rfl rfl hkey (metW_not z hWk.first hm) ?_ ?_ ?_;rotate_left 1;(· simp);rotate_left 1;(· (simp;exact key_pair _ _));simp)
       |(refine hC.raStore (.can 1) (k:=262) (key:=pairK (stp2 a b (x,y) l[k])) (zero:=vI 0) (av:=vI 1) (l:=metW z ws) rfl rfl ?_ ?_;(· simp);simp)
       |fail
   ·have htk:l.take k=l:=List.take_of_length_le (by omega);rw [htk] at hWk;have hturn:=ways_turn hWk (fun x hx=>hx) hwi hgood;have hil:=(List.getElem?_eq_some_iff.1 hwi).1;have hw1:=wr64 ((i:Int)+1) (by omega);refine hC.go [] 60 ?_;simp [hkl];exact go_to [(.can 0,.nm (.can 0)),(.can 1,.nm (.can 1))] (ih ⟨(i+1,ws),hil,hturn⟩ (by simp;omega)) (by simp [hw1,Au.cells])
  ·cases hbad:badP a b both x y with
   |true=>
    rw [hfound i ways _ hW hq' hbad] at hC;cases hp:a.acc x
    all_goals
     cases hq2:b.acc y
     all_goals
      cases both
      all_goals
       simp only [badP,hp,hq2] at hbad
       first
        |(exfalso;revert hbad;decide)
        |(refine hC.go [] 60 ?_
          simp)
   |false=>
    have tail':=tail ⟨hbad⟩;cases hp:a.acc x
    all_goals
     cases hq2:b.acc y
     all_goals
      cases both
      all_goals
       simp only [badP,hp,hq2] at hbad
       first
        |(exfalso;revert hbad;decide)
        |(refine hC.til [1012] [] 60 ?_
          simp;exact go_to [] tail' (by simp [Au.cells]))
 ·have hno:=hnone i ways hW (by omega);rw [hno] at hC;refine hC.til [20] [] 60 ?_;simp [hlt];refine hC.go [] 4 ?_;simp;refine go_to (M:=⟨[(6,.pv (namesV [])),(7,vB false)],[]⟩) [] ?_ (by simp);refine hC.go [] 60 ?_;simp
end
set_option maxRecDepth 20000 in
set_option maxHeartbeats 4000000 in
theorem h50 (Gl:Granted){a b:Au}{La Lb:Nat→Row→Prop}(ha:Least a La)(hb:Least b Lb){e f:E}(he:e.cnt≤24)(hf:f.cnt≤24)(hoe:e.ok=true)(hof:f.ok=true)(h1:∀w,La 0 w↔e.L w)(h2:∀w,Lb 0 w↔f.L w)
 (hla:a.names.length≤1000) (hlb:b.names.length≤1000) (both:Bool) :
 Fun Tryz.prog Gl 125 [a.av,b.av,vB both] [] (.tup [.pv (namesV (apartR e f both).1),vB (apartR e f both).2]) []:=by
 refine fun_of (T:=T5) (n:=114) (rs:=[.tmp 6,.tmp 7]) Tryz.func125 (by kernel_rfl) rfl rfl rfl tok5 mixed (by simp) fun C hC=>?_;refine go_lenA 0 1 1 a.cells (a.next.map fun r=>[ints r]) (by simp [Au.av]) rfl fun hna=>?_;refine go_lenA 1 1 1 b.cells (b.next.map fun r=>[ints r]) (by simp [Au.av]) rfl fun hnb=>?_;rw [List.length_map] at hna hnb;refine hC.go [] 60 ?_;simp [Au.av,Au.cells];refine hC.call [] (h99 Gl [a.names,b.names] (by simp) (by simp;omega)) (by simp) ?_;obtain ⟨l0,hl0⟩:∃l0,[a.names,b.names].flatten=l0:=⟨_,rfl⟩;have hl0':l0.length≤2000:=by rw [←hl0];simp;omega
 have hmem0:∀x,x∈l0↔x∈a.names∨x∈b.names:=fun x=>by rw [←hl0];simp
 rw [hl0];refine hC.go [] 60 ?_;simp;refine hC.call [] (h98 Gl l0) (by simp) ?_;refine hC.go [] 60 ?_;simp;refine hC.callO [] [.can 0] (h48o Gl l0 (by omega)) (by simp) ?_;refine hC.go [] 60 ?_;simp;have hsl:=sortB_len l0;refine hC.call [.can 0] (h97 Gl (sortB l0) (by omega)) (by simp) ?_;obtain ⟨hsort,hmem⟩:=names_ok l0;have hcl:=cpB_len (sortB l0);generalize cpB (sortB l0)=l at hsort hmem hcl;refine hC.til [3] [29] 60 ?_;simp;obtain ⟨kl0,hk0⟩:=key174 (p:=((0:Int),(0:Int))) (by unfold small64;decide) (by unfold small64;decide);obtain ⟨kl1,hk1⟩:=key174 (p:=((-1:Int),(-1:Int))) (by unfold small64;decide) (by unfold small64;decide);refine go_cut1 (ι:=Bool) (fun z=>⟨[(2,vB both),(3,.ptr (.loc 3) 0),(4,.ptr (.loc 4) 0),(8,.pv (namesV l)),(9,.own (.can 0)),(10,.hmap (.can 1))],[(.loc 3,some (.box 137 a.cells)),(.loc 4,some (.box 137 b.cells)),(.can 0,some (waysB [((0,0),[])])),(.can 1,some (.gen (mapC Tryz.prog 262 (metO z []))))]⟩) (fun z=>?_) (fun tail=>?_)
 ·exact h50b ha hb he hf hoe hof h1 h2 hna hnb both z l (by omega) hsort (fun x=>(hmem x).trans (hmem0 x)) hC
 ·skip
  refine go_to (M:=⟨[(2,vB both),(3,.ptr (.loc 3) 0),(4,.ptr (.loc 4) 0),(8,.pv (namesV l)),(9,.own (.can 0))],[(.loc 3,some (.box 137 a.cells)),(.loc 4,some (.box 137 b.cells)),(.can 0,some (waysB [((0,0),[])]))]⟩) [(.can 0,.nm (.loc 29))] ?_ (by simp [Au.cells]);refine go_all hC.mixed ?_
  repeat' first
   |(refine ra_end (by decide +kernel) ?_;first|(refine go_to [(.can 0,.nm (.can 0)),(.can 1,.nm (.loc 30))] (tail true) ?_;simp [metO,metP,Au.cells];done)|(refine go_to [(.can 0,.nm (.can 0)),(.can 1,.nm (.loc 30))] (tail false) ?_;simp [metO,metP,Au.cells];done))
   |(refine ra_ready [0,1,3] (by decide +kernel) (by simp) ?_;simp only [List.mem_cons,List.not_mem_nil,or_false,forall_eq_or_imp,forall_eq])
   |(refine ra_ready [1,3] (by decide +kernel) (by simp) ?_;simp only [List.mem_cons,List.not_mem_nil,or_false,forall_eq_or_imp,forall_eq])
   |(refine ra_ready [0,3] (by decide +kernel) (by simp) ?_;simp only [List.mem_cons,List.not_mem_nil,or_false,forall_eq_or_imp,forall_eq])
   |(refine ra_ready [0,1] (by decide +kernel) (by simp) ?_;simp only [List.mem_cons,List.not_mem_nil,or_false,forall_eq_or_imp,forall_eq])
   |(refine ra_ready [2,3] (by decide +kernel) (by simp) ?_;simp only [List.mem_cons,List.not_mem_nil,or_false,forall_eq_or_imp,forall_eq])
   |(refine ra_ready [1,4] (by decide +kernel) (by simp) ?_;simp only [List.mem_cons,List.not_mem_nil,or_false,forall_eq_or_imp,forall_eq])
   |(refine ra_ready [2,4] (by decide +kernel) (by simp) ?_;simp only [List.mem_cons,List.not_mem_nil,or_false,forall_eq_or_imp,forall_eq])
   |(refine ra_ready [0] (by decide +kernel) (by simp) ?_;simp only [List.mem_cons,List.not_mem_nil,or_false,forall_eq_or_imp,forall_eq])
   |(refine ra_ready [3] (by decide +kernel) (by simp) ?_;simp only [List.mem_cons,List.not_mem_nil,or_false,forall_eq_or_imp,forall_eq])
   |(refine ra_ready [1] (by decide +kernel) (by simp) ?_;simp only [List.mem_cons,List.not_mem_nil,or_false,forall_eq_or_imp,forall_eq])
   |(refine ra_ready [4] (by decide +kernel) (by simp) ?_;simp only [List.mem_cons,List.not_mem_nil,or_false,forall_eq_or_imp,forall_eq])
   |(refine ra_ready [2] (by decide +kernel) (by simp) ?_;simp only [List.mem_cons,List.not_mem_nil,or_false,forall_eq_or_imp,forall_eq])
   |(refine ra_ready [5] (by decide +kernel) (by simp) ?_;simp only [List.mem_cons,List.not_mem_nil,or_false,forall_eq_or_imp,forall_eq])
   |(refine ra_ready [6] (by decide +kernel) (by simp) ?_;simp only [List.mem_cons,List.not_mem_nil,or_false,forall_eq_or_imp,forall_eq])
   |refine And.intro ?_ ?_
   |(refine hC.raMk (d:=30) 262 rfl rfl rfl (by simp [Au.cells];done) ?_;simp)
   |(refine hC.raOp (fp:=[]) (A:=⟨.agg [vI 0,vI 0],[]⟩) rfl ⟨rfl,rfl,rfl⟩ (by simp [news];done) ?_;simp)
   |(refine hC.raOp (fp:=[]) (A:=⟨.agg [vI (-1),vI (-1)],[]⟩) rfl ⟨rfl,rfl,rfl⟩ (by simp [news];done) ?_;simp)
   |(refine hC.raOp (fp:=[]) (A:=⟨.hmap (.loc 30),[]⟩) rfl ⟨rfl,rfl,rfl⟩ (by simp [news];done) ?_;simp)
   |(refine hC.raPut (l:=[]) (av:=vI 1) (key:=pairK (0,0)) Tryz.underlying266 keyed174 (.loc 30) rfl (.inr rfl) ?_ hk0 ?_ ?_ ?_;rotate_left 2;(· simp);rotate_left 1;(· (simp;exact key_pair _ _));(· simp [pairK]);simp)
   |(refine hC.raPut (l:=[]) (av:=vI 1) (key:=pairK (-1,-1)) Tryz.underlying266 keyed174 (.loc 30) rfl (.inr rfl) ?_ hk1 ?_ ?_ ?_;rotate_left 2;(· simp);rotate_left 1;(· (simp;exact key_pair _ _));(· simp [pairK]);simp)
   |(refine hC.raPut (l:=[(pairK (-1,-1),vI 1)]) (av:=vI 1) (key:=pairK (0,0)) Tryz.underlying266 keyed174 (.loc 30) rfl (.inr rfl) ?_ hk0 ?_ ?_ ?_;rotate_left 2;(· simp);rotate_left 1;(· (simp;exact key_pair _ _));(· simp [pairK]);simp)
   |(refine hC.raPut (l:=[(pairK (0,0),vI 1)]) (av:=vI 1) (key:=pairK (-1,-1)) Tryz.underlying266 keyed174 (.loc 30) rfl (.inr rfl) ?_ hk1 ?_ ?_ ?_;rotate_left 2;(· simp);rotate_left 1;(· (simp;exact key_pair _ _));(· simp [pairK]);simp)
   |fail
section
variable (Gl:Granted) {a b:Au} {La Lb:Nat→Row→Prop} {e f:E} (ha:Least a La) (hb:Least b Lb) (he:e.cnt≤24) (hf:f.cnt≤24) (hoe:e.ok=true) (hof:f.ok=true) (h1:∀w,La 0 w↔e.L w) (h2:∀w,Lb 0 w↔f.L w)
 (hla:a.names.length≤1000) (hlb:b.names.length≤1000)
include ha hb he hf hoe hof h1 h2 hla hlb
set_option maxRecDepth 20000 in
theorem h25:Fun Tryz.prog Gl 69 [a.av,b.av] [] (vB (!(apartR e f true).2)) []:=by
 have hc:=h50 Gl ha hb he hf hoe hof h1 h2 hla hlb true;generalize apartR e f true=r at hc;refine fun_of (T:=T5) (n:=15) (rs:=[.tmp 4]) Tryz.func69 (by kernel_rfl) rfl rfl rfl tok5 mixed (by simp) fun C hC=>?_;refine hC.go [] 60 ?_;simp [Au.av,Au.cells];refine hC.call [] hc (by simp [Au.av,Au.cells]) ?_;refine hC.go [] 60 ?_;simp
end
end Go.Proofs.D
namespace Go.Proofs.D
open Go Go.Abs
end Go.Proofs.D
