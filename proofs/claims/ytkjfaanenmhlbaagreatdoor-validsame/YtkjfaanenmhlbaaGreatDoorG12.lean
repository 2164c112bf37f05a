/-
  THE NAMES of an expression: once each, in order.
-/
import Derived.Test.YtkjfaanenmhlbaaGreatDoorD36
import Derived.Test.YtkjfaanenmhlbaaGreatDoorIter
import Derived.Test.YtkjfaanenmhlbaaGreatDoorZ0
import Derived.Test.YtkjfaanenmhlbaaGreatDoorL6
set_option linter.unusedVariables false
set_option linter.unusedSimpArgs false
namespace Go.Proofs.D
open Go Go.Abs Go.RowKit Go.Sort Go.Maps
def KQ (Q:Obj→Prop)(w:World)(F:Nat→Prop)(v:Value):Prop:=
 ∃kb b o,v = .func (.func 225) #[] #[.pointer (some ⟨kb,0,none⟩)]∧F kb∧w.heap[kb]?=some (.cells #[.map (some b)] 244 (0,0))∧F b∧w.heap[b]?=some o∧Q o
theorem dead_hd {w:World}{F:Nat→Prop}{hd:Nm→Hd}(h:Lies w F hd (keyed 0 [])):hd=fun _=>.dead:=funext fun r=>h.holds r
theorem f49 (Gl:Granted)(Q:Obj→Prop):Fun Tryz.prog Gl 173 [.rom Q] [] (.opq (KQ Q)) []:=by
 refine ⟨⟨_,Tryz.func173,by kernel_rfl,rfl⟩,fun w0 F0 hd0 cargs hg hl hlen hr=>?_⟩;have hd:=dead_hd hl;subst hd
 match cargs,hlen with
 |[c],_=>
  have h0:=hr 0 _ c rfl rfl;cases h0 with
  |rom _ b o hF ho hq=>
   refine (callsIn_wide.1 (Tryz.maps_Keys_49 (some b) w0)).mono fun e w' ⟨he,hw⟩=>?_;subst hw;have hbl:=hl.fin b hF;have hold:∀k,k<w0.heap.size→(w0.alloc (.cells #[.map (some b)] 244)).heap[k]?=w0.heap[k]?:=fun k hk=>Below.heap_alloc _ _ _ hk;have hsz:(w0.alloc (.cells #[.map (some b)] 244)).heap.size=w0.heap.size+1:=(by simp);refine ⟨_,fun k=>F0 k∨k=w0.heap.size,fun _=>.dead,he,.opq _ _ rfl fun w2 F2 h1 h2=>?_,⟨fun k hk=>?_,fun r s k _ h=>h.elim,fun r k h=>h.elim,fun r=>rfl⟩,
    ⟨fun r k h=>h.elim,fun k hk=>?_,fun k hk=>.inl hk,fun i=>.inl rfl,rfl,rfl,rfl,by rw [hsz];omega,fun k hk _=>hold k hk⟩⟩
   ·exact ⟨w0.heap.size,b,o,rfl,h2 _ (.inr rfl),(h1 _ (.inr rfl)).trans (heap_alloc_new w0 _),h2 _ (.inl hF),(h1 _ (.inl hF)).trans ((hold b hbl).trans ho),hq⟩
   ·rw [hsz];rcases hk with hk|rfl
    ·have:=hl.fin k hk;omega
    ·omega
   ·rcases hk with hk|rfl
    ·exact .inl hk
    ·exact .inr (.inl (Nat.le_refl _))
def sortedNames (D:DataW Unit):List ByteArray:=((strKeys D).mergeSort fun x y=>decide (x≤y)).map fun l=>⟨l.toArray⟩
theorem leL_total (x y:List UInt8):(decide (x≤y) || decide (y≤x))=true:=by
 simp only [Bool.or_eq_true,decide_eq_true_eq];exact List.le_total x y
theorem leL_trans (x y z:List UInt8)(h1:decide (x≤y)=true)(h2:decide (y≤z)=true):decide (x≤z)=true:=by
 simp only [decide_eq_true_eq] at *;exact List.le_trans h1 h2
theorem sort_perm {l m:List (List UInt8)}(h:l.Perm m):l.mergeSort (fun x y=>decide (x≤y))=m.mergeSort (fun x y=>decide (x≤y)):=by
 have h1:=List.pairwise_mergeSort leL_trans leL_total l;have h2:=List.pairwise_mergeSort leL_trans leL_total m;have h3:(l.mergeSort (fun x y=>decide (x≤y))).Perm (m.mergeSort (fun x y=>decide (x≤y))):=(List.mergeSort_perm l _).trans (h.trans (List.mergeSort_perm m _).symm);refine List.Perm.eq_of_pairwise (le:=fun x y=>decide (x≤y)=true) ?_ h1 h2 h3;intro a b _ _ q1 q2;simp only [decide_eq_true_eq] at q1 q2;exact List.le_antisymm q1 q2
set_option maxRecDepth 20000 in
theorem f48 (Gl:Granted)(D:DataW Unit)(hD:Maps.size D≤1000000):Fun Tryz.prog Gl 172 [.opq (KQ (Nq D))] [] (.pv (.ro 1 ((sortedNames D).map fun s=>[.val (.string s)]))) []:=by
 refine ⟨⟨_,Tryz.func172,by kernel_rfl,rfl⟩,fun w0 F0 hd0 cargs hg hl hlen hr=>?_⟩;have hd:=dead_hd hl;subst hd
 match cargs,hlen with
 |[c],_=>
  have h0:=hr 0 _ c rfl rfl;cases h0 with
  |opq _ _ h1 hK=>
   obtain ⟨kb,b,o,rfl,hkb,hcell,hb,ho,hq⟩:=hK w0 F0 (fun _ _=>rfl) (fun _ h=>h);obtain ⟨D',hD',hown⟩:=mapQ_owns ho hq;subst hD';have hseq:=AnyZ.keys_gives (ρ:=Tryz.keys49_ren) { Tryz.keys49 with } Fence.wide 2 trivial rfl (by omega) kb b (Maps.size D') D' w0 (hl.fin kb hkb) (by simp [World.cell?,hcell]) hown;have hs:=AnyZ.sorted_in Tryz.sorted48 Fence.wide 5 trivial trivial trivial trivial rfl (by omega) (Tryz.sorts48 _) (enters_of Tryz.func139 (by kernel_rfl) rfl) 225 #[.pointer (some ⟨kb,0,none⟩)] trivial (enters_of Tryz.func225 (by kernel_rfl) rfl) _ _ (by simp only [maxLen];omega) (by omega) w0 hseq;refine (callsIn_wide.1 hs).mono fun e w' ⟨v,ss,he,hperm,hrow,hnil,hbelow⟩=>?_;have hsort:=sort_perm hperm;rw [hsort] at hrow;have hlen:ss.length=(sortedNames D').length:=by
    simp [sortedNames,List.length_mergeSort,hperm.length_eq]
   obtain ⟨r1,r2⟩:=hrow;have hblk:∀k,v.ownBlock=some k→w0.heap.size≤k∧k<w'.heap.size:=by
    intro k hk;rcases r2 with ⟨rfl,_⟩|⟨g,cap,cur,rfl,q3,q4,_⟩
    ·simp [Value.ownBlock] at hk
    ·simp [Value.ownBlock] at hk;subst hk;exact ⟨q3,(Array.getElem?_eq_some_iff.1 q4).1⟩
   have hrow':w'.ownsRow 0 9 1 v ((sortedNames D').map fun s=>[PV.val (.string s)]).length (((strKeys D').mergeSort fun x y=>decide (x≤y)).map encStr):=by
    rw [List.length_map,←hlen];exact ⟨r1,r2.imp id fun ⟨g,cap,cur,q2,q3,q4⟩=>⟨g,cap,cur,q2,Nat.zero_le _,q4⟩⟩
   refine ⟨v,fun k=>F0 k∨v.ownBlock=some k,fun _=>.dead,he,.pv _ _ (row_ro hrow' (fun i el hi=>?_) (fun i j el c u h1 h2 h3=>?_) (fun k hk=>.inr hk)),⟨fun k hk=>?_,fun r s k _ h=>h.elim,fun r k h=>h.elim,fun r=>rfl⟩,
    ⟨fun r k h=>h.elim,fun k hk=>?_,fun k hk=>.inl hk,fun i=>.inl rfl,hbelow.os,hbelow.tape,hbelow.output,hbelow.size,fun k hk _=>hbelow.block k hk⟩⟩
   ·rw [List.getElem?_map] at hi;cases hx:(sortedNames D')[i]? with
    |none=>rw [hx] at hi;cases hi
    |some x=>rw [hx] at hi;cases hi;rfl
   ·rw [List.getElem?_map] at h1;cases hx:(sortedNames D')[i]? with
    |none=>rw [hx] at h1;cases h1
    |some x=>
     rw [hx] at h1;cases h1
     match j,h2 with
     |0,h2=>
      simp at h2;subst h2;simp only [sortedNames,List.getElem?_map] at hx;rw [List.getElem?_map] at h3;simp only [Nat.mul_one,Nat.add_zero] at h3;cases hy:((strKeys D').mergeSort fun x y=>decide (x≤y))[i]? with
      |none=>rw [hy] at hx;cases hx
      |some y=>
       rw [hy] at hx h3;cases hx;cases h3;exact .val _ rfl
   ·rcases hk with hk|hk
    ·exact Nat.lt_of_lt_of_le (hl.fin k hk) hbelow.size
    ·exact (hblk k hk).2
   ·rcases hk with hk|hk
    ·exact .inl hk
    ·exact .inr (.inl (hblk k hk).1)
end Go.Proofs.D
namespace Go.Proofs.D
open Go Go.Abs
attribute [local simp] T2
def E.names (e:E):List ByteArray:=sortedNames (e.tally (.map []))
set_option maxRecDepth 20000 in
theorem f25 (Gl:Granted)(e:E)(hs:e.small)(hc:e.cnt≤900000):Fun Tryz.prog Gl 113 [e.av] [] (.pv (.ro 1 (e.names.map fun s=>[.val (.string s)]))) []:=by
 have htal:=tal_tally e (.map []) 0 tal_empty;refine fun_of (T:=T2) (n:=13) (rs:=[.tmp 2]) Tryz.func113 (by kernel_rfl) rfl rfl rfl tok2 mixed (by simp) fun C hC=>?_;refine hC.vc [] 60 ?_;simp [E.av,E.cells];refine hC.makeIs 9 3 (by rfl) (by rfl) (by simp) ?_;refine hC.vc [] 60 ?_;simp;refine hC.call [.loc 3,.loc 4,.loc 5] (f47 Gl e hs (.map []) 0 tal_empty (by omega)) (by simp [E.av,E.cells]) ?_;refine hC.vc [] 60 ?_;simp;refine hC.call [.loc 5] (fun_own (a:=[]) (b:=[]) (by simp) rfl (f49 Gl (Nq (e.tally (.map []))))) (by simp) ?_;refine hC.vc [] 60 ?_;simp;refine hC.call [] (f48 Gl (e.tally (.map [])) (by have:=htal.size;omega)) (by simp) ?_;refine hC.vc [] 60 ?_;simp [E.names]
end Go.Proofs.D
namespace Go.Proofs.D
open Go Go.Abs Go.Sort Go.Maps
def E.occ:E→ByteArray→Prop
 |.mk op name kids=>fun s=>if op=110 then s=name else go kids s
where go:List E→ByteArray→Prop
 |[]=>fun _=>False
 |k::l=>fun s=>k.occ s∨go l s
theorem occ_go (l:List E)(s:ByteArray):E.occ.go l s↔∃k∈l,k.occ s:=by
 induction l with
 |nil=>simp [E.occ.go]
 |cons x l ih=>simp [E.occ.go,ih]
theorem occ_eq (e:E)(s:ByteArray):e.occ s↔if e.op=110 then s=e.name else ∃k∈e.kids,k.occ s:=by
 obtain ⟨o,n,k⟩:=e;by_cases h:o=110
 ·simp [E.occ,E.op,E.name,E.kids,h]
 ·simp [E.occ,E.op,E.name,E.kids,h,occ_go]
theorem keyS_inj {s t:ByteArray}(h:keyS s=keyS t):s=t:=by
 obtain ⟨⟨l⟩⟩:=s;obtain ⟨⟨m⟩⟩:=t;simp [keyS] at h;rw [h]
theorem bump_has {D:DataW Unit}(h:IsMap D)(s:ByteArray)(k:Lit):has (bump D s) k=true↔has D k=true∨k=keyS s:=by
 by_cases hk:k=keyS s
 ·subst hk;rw [bump,has_put_same h (key_str s)];simp
 ·rw [bump,has_put_other hk];simp [hk]
theorem tally_has (e:E)(D:DataW Unit)(N:Nat)(h:Tal D N)(k:Lit):has (e.tally D) k=true↔has D k=true∨∃s,k=keyS s∧e.occ s:=by
 rw [tally_eq];by_cases h1:e.op=110
 ·rw [if_pos h1,bump_has h.tidy.isMap];refine or_congr Iff.rfl ?_;constructor
  ·intro hk;exact ⟨e.name,hk,(occ_eq e _).2 (by rw [if_pos h1])⟩
  ·rintro ⟨s,rfl,hs⟩
   have:=(occ_eq e s).1 hs;rw [if_pos h1] at this;rw [this]
 ·rw [if_neg h1];have key:∀l:List E,(∀x∈l,x∈e.kids)→∀D N,Tal D N→(has (E.tally.go l D) k=true↔has D k=true∨∃s,k=keyS s∧∃x∈l,x.occ s):=by
   intro l;induction l with
   |nil=>intro _ D N _;simp [E.tally.go]
   |cons x l ih=>
    intro hl D N hD;simp only [E.tally.go];rw [ih (fun y hy=>hl y (by simp [hy])) _ _ (tal_tally x D N hD),tally_has x D N hD];constructor
    ·rintro ((h|⟨s,a,b⟩)|⟨s,a,y,b,c⟩)
     ·exact .inl h
     ·exact .inr ⟨s,a,x,by simp,b⟩
     ·exact .inr ⟨s,a,y,by simp [b],c⟩
    ·rintro (h|⟨s,a,y,b,c⟩)
     ·exact .inl (.inl h)
     ·rcases List.mem_cons.1 b with rfl|b
      ·exact .inl (.inr ⟨s,a,c⟩)
      ·exact .inr ⟨s,a,y,b,c⟩
  rw [key e.kids (fun _ h=>h) D N h];refine or_congr Iff.rfl ?_;refine exists_congr fun s=>and_congr Iff.rfl ?_;rw [occ_eq,if_neg h1]
termination_by SizeOf.sizeOf e
decreasing_by exact E.kids_lt (hl x (by simp))
def isStr:Lit→Bool
 |.string _=>true
 |_=>false
def AllStr:DataW Unit→Bool
 |.map es=>!es.any fun p=>!isStr p.1
 |_=>true
theorem allStr_put {D:DataW Unit}(h:AllStr D=true)(s:ByteArray)(d:DataW Unit):AllStr (D.put (keyS s) d)=true:=by
 cases D<;>try exact h
 rename_i es;show (!((DataW.insert (keyS s,d) (es.filter fun p=>!p.1.sameKey (keyS s))).any fun p=>!isStr p.1))=true;simp only [AllStr,Bool.not_eq_true'] at h ⊢;rw [any_insert];simp only [isStr,Bool.not_true,Bool.false_or];rw [List.any_eq_false] at h ⊢;intro p hp;exact h p (List.mem_filter.1 hp).1
theorem allStr_tally (e:E)(D:DataW Unit)(h:AllStr D=true):AllStr (e.tally D)=true:=by
 rw [tally_eq];split
 ·exact allStr_put h _ _
 ·have key:∀l:List E,(∀x∈l,x∈e.kids)→∀D,AllStr D=true→AllStr (E.tally.go l D)=true:=by
   intro l;induction l with
   |nil=>intro _ D h;exact h
   |cons x l ih=>
    intro hl D h;simp only [E.tally.go];exact ih (fun y hy=>hl y (by simp [hy])) _ (allStr_tally x D h)
  exact key e.kids (fun _ h=>h) D h
termination_by SizeOf.sizeOf e
decreasing_by exact E.kids_lt (hl x (by simp))
theorem keys_mem {D:DataW Unit}(hT:Tidy D)(hA:AllStr D=true)(l:List UInt8):l∈strKeys D↔has D (.string l)=true:=by
 obtain ⟨es,rfl,_⟩:=hT;simp only [AllStr,Bool.not_eq_true',List.any_eq_false] at hA;simp only [strKeys,List.mem_map,has,List.any_eq_true];constructor
 ·rintro ⟨p,hp,rfl⟩
  refine ⟨p,hp,?_⟩;have:=hA p hp;obtain ⟨q,d⟩:=p;cases q<;>simp [isStr] at this
  simp [strOf,Lit.sameKey]
 ·rintro ⟨p,hp,hk⟩
  exact ⟨p,hp,by rw [WideAt.sameKey_eq hk];rfl⟩
theorem keys_nodup {D:DataW Unit}(hT:Tidy D)(hA:AllStr D=true):(strKeys D).Nodup:=by
 obtain ⟨es,rfl,hp⟩:=hT;simp only [AllStr,Bool.not_eq_true',List.any_eq_false] at hA;simp only [strKeys,List.Nodup,List.pairwise_map];refine hp.imp_of_mem fun {a b} ha hb hne heq=>hne ?_;have h1:=hA a ha;have h2:=hA b hb;obtain ⟨q,d⟩:=a;obtain ⟨q',d'⟩:=b;cases q<;>simp [isStr] at h1
 cases q'<;>simp [isStr] at h2
 simp [strOf] at heq;rw [heq]
theorem names_mem (e:E)(s:ByteArray):s∈e.names↔e.occ s:=by
 have hT:=tal_tally e (.map []) 0 tal_empty;have hA:=allStr_tally e (.map []) rfl;simp only [E.names,sortedNames,List.mem_map,List.mem_mergeSort];constructor
 ·rintro ⟨l,hl,rfl⟩
  rw [keys_mem hT.tidy hA] at hl;rcases (tally_has e (.map []) 0 tal_empty _).1 hl with h|⟨s,h1,h2⟩
  ·simp [has] at h
  ·have:s=⟨l.toArray⟩:=keyS_inj (by rw [←h1]);exact this ▸ h2
 ·intro h;refine ⟨s.data.toList,?_,by simp⟩;rw [keys_mem hT.tidy hA];exact (tally_has e (.map []) 0 tal_empty _).2 (.inr ⟨s,rfl,h⟩)
theorem names_rise (e:E):(e.names.map fun s=>s.data.toList).Pairwise (fun a b=>a<b):=by
 have hT:=tal_tally e (.map []) 0 tal_empty;have hA:=allStr_tally e (.map []) rfl;have h1:=List.pairwise_mergeSort leL_trans leL_total (strKeys (e.tally (.map [])));have h2:((strKeys (e.tally (.map []))).mergeSort fun x y=>decide (x≤y)).Nodup:=(List.mergeSort_perm _ _).nodup_iff.2 (keys_nodup hT.tidy hA);have h3:(e.names.map fun s=>s.data.toList)=(strKeys (e.tally (.map []))).mergeSort fun x y=>decide (x≤y):=by
  simp only [E.names,sortedNames,List.map_map];have:((fun s:ByteArray=>s.data.toList) ∘ fun l:List UInt8=>(⟨l.toArray⟩:ByteArray))=id:=by funext l;simp
  rw [this,List.map_id]
 rw [h3];exact (h1.and h2).imp fun {a b} ⟨p,q⟩=>by
  simp only [decide_eq_true_eq] at p;exact (List.le_iff_lt_or_eq.1 p).resolve_right q
end Go.Proofs.D
namespace Go.Proofs.D
open Go Go.Abs
abbrev Stt:=Rest→Prop
def stepS (a:ByteArray)(S:Stt):Stt:=fun x=>∃r,S r∧x∈stepR a r
open Classical in
noncomputable def nextsS (names:List ByteArray)(S:Stt):List (Option Stt):=names.map fun a=>if ∃x,stepS a S x then some (stepS a S) else none
open Classical in
noncomputable def finS (S:Stt):Bool:=decide (∃r,S r∧nulR r=true)
def one (e:E):Stt:=fun r=>r = [e]
def BW:Nat:=16777216
open Classical in
noncomputable def wholeM (e:E)(i:Nat):List Stt × List (List Int):=met id (nextsS e.names) (one e) i
noncomputable def whole (e:E):Au:=⟨e.names,(wholeM e BW).2,(wholeM e BW).1.map finS⟩
theorem sum_add {α:Type}(f g:α→Nat)(l:List α):(l.map fun x=>f x+g x).sum=(l.map f).sum+(l.map g).sum:=by
 induction l with
 |nil=>rfl
 |cons x l ih=>simp [ih];omega
theorem sum_zero {α:Type}(l:List α):(l.map fun _=>0).sum=0:=by induction l<;>simp [*]
theorem pdy_len (ys:List ByteArray)(hn:ys.Nodup)(e:E):(ys.map fun y=>(e.pdy y).length).sum≤e.leaves:=by
 have hk:∀k∈e.kids,(ys.map fun y=>(k.pdy y).length).sum≤k.leaves:=fun k hk=>pdy_len ys hn k;have hA:∀l:List E,(∀k∈l,(ys.map fun y=>(k.pdy y).length).sum≤k.leaves)→(ys.map fun y=>(E.pdy.altP y l).length).sum≤E.leaves.go l:=by
  intro l;induction l with
  |nil=>intro _;simp [E.pdy.altP,E.leaves.go,sum_zero]
  |cons k l ih=>
   intro h;have h1:=h k (by simp);have h2:=ih fun x hx=>h x (by simp [hx]);simp only [E.pdy.altP,List.length_append,sum_add,E.leaves.go];omega
 have hS:∀l:List E,(∀k∈l,(ys.map fun y=>(k.pdy y).length).sum≤k.leaves)→(ys.map fun y=>(E.pdy.seqP y l).length).sum≤E.leaves.go l:=by
  intro l;induction l with
  |nil=>intro _;simp [E.pdy.seqP,E.leaves.go,sum_zero]
  |cons k l ih=>
   intro h;have h1:=h k (by simp);have h2:=ih fun x hx=>h x (by simp [hx]);simp only [E.pdy.seqP,List.length_append,List.length_map,sum_add,E.leaves.go];omega
 have hH:∀l:List E,(∀k∈l,(ys.map fun y=>(k.pdy y).length).sum≤k.leaves)→(ys.map fun y=>(E.pdy.headP y l).length).sum≤E.leaves.go l:=by
  intro l h;cases l with
  |nil=>simp [E.pdy.headP,E.leaves.go,sum_zero]
  |cons k l=>
   have h1:=h k (by simp);simp only [E.pdy.headP,E.leaves.go];omega
 rw [leaves_eq];by_cases h1:e.op=110
 ·rw [if_pos h1];have:∀l:List ByteArray,l.Nodup→(l.map fun y=>(e.pdy y).length).sum≤1:=by
   intro l;induction l with
   |nil=>intro _;simp
   |cons y l ih=>
    intro hl;obtain ⟨g1,g2⟩:=List.nodup_cons.1 hl;simp only [List.map_cons,List.sum_cons];by_cases hy:e.name=y
    ·have h0:∀m:List ByteArray,y∉m→(m.map fun y=>(e.pdy y).length).sum=0:=by
      intro m;induction m with
      |nil=>intro _;rfl
      |cons z m ih2=>
       intro hz;simp only [List.mem_cons,not_or] at hz;have:¬e.name=z:=fun e'=>hz.1 (hy ▸ e');simp only [List.map_cons,List.sum_cons,ih2 hz.2];rw [pdy_eq,if_pos h1,if_neg this];rfl
     rw [h0 l g1,pdy_eq,if_pos h1,if_pos hy];simp
    ·have:=ih g2;rw [pdy_eq,if_pos h1,if_neg hy];simpa using this
  exact this ys hn
 ·rw [if_neg h1];have e0:∀y,(e.pdy y).length=if e.op=97 then (E.pdy.altP y e.kids).length else if e.op=115 then (E.pdy.seqP y e.kids).length else (E.pdy.headP y e.kids).length:=fun y=>by
   rw [pdy_eq,if_neg h1];split
   ·rfl
   ·split
    ·rfl
    ·split
     ·rfl
     ·simp
  simp only [e0];split
  ·exact hA _ hk
  ·split
   ·exact hS _ hk
   ·exact hH _ hk
termination_by SizeOf.sizeOf e
decreasing_by exact E.kids_lt hk
theorem pdy_occ (y:ByteArray)(e:E):∀r∈e.pdy y,e.occ y:=by
 have hk:∀k∈e.kids,∀r∈k.pdy y,k.occ y:=fun k hk=>pdy_occ y k;have hA:∀l:List E,(∀k∈l,∀r∈k.pdy y,k.occ y)→∀r∈E.pdy.altP y l,∃k∈l,k.occ y:=by
  intro l;induction l with
  |nil=>intro _ r hr;cases hr
  |cons k l ih=>
   intro h r hr;simp only [E.pdy.altP,List.mem_append] at hr;rcases hr with hr|hr
   ·exact ⟨k,by simp,h k (by simp) r hr⟩
   ·obtain ⟨x,hx,ho⟩:=ih (fun x hx=>h x (by simp [hx])) r hr;exact ⟨x,by simp [hx],ho⟩
 have hS:∀l:List E,(∀k∈l,∀r∈k.pdy y,k.occ y)→∀r∈E.pdy.seqP y l,∃k∈l,k.occ y:=by
  intro l;induction l with
  |nil=>intro _ r hr;cases hr
  |cons k l ih=>
   intro h r hr;simp only [E.pdy.seqP,List.mem_append,List.mem_map] at hr;rcases hr with ⟨s,hs,_⟩|hr
   ·exact ⟨k,by simp,h k (by simp) s hs⟩
   ·obtain ⟨x,hx,ho⟩:=ih (fun x hx=>h x (by simp [hx])) r hr;exact ⟨x,by simp [hx],ho⟩
 have hH:∀l:List E,(∀k∈l,∀r∈k.pdy y,k.occ y)→∀r∈E.pdy.headP y l,∃k∈l,k.occ y:=by
  intro l h r hr;cases l with
  |nil=>cases hr
  |cons k l=>exact ⟨k,by simp,h k (by simp) r hr⟩
 intro r hr;rw [occ_eq];rw [pdy_eq] at hr;by_cases h1:e.op=110
 ·rw [if_pos h1] at hr ⊢;split at hr
  ·rename_i h;exact h.symm
  ·cases hr
 ·rw [if_neg h1] at hr ⊢;by_cases h2:e.op=97
  ·rw [if_pos h2] at hr;exact hA _ hk r hr
  ·rw [if_neg h2] at hr;by_cases h3:e.op=115
   ·rw [if_pos h3] at hr;exact hS _ hk r hr
   ·rw [if_neg h3] at hr;by_cases h4:e.op=63
    ·rw [if_pos h4] at hr;exact hH _ hk r hr
    ·rw [if_neg h4] at hr;obtain ⟨s,hs,_⟩:=List.mem_map.1 hr;exact hH _ hk s hs
termination_by SizeOf.sizeOf e
decreasing_by exact E.kids_lt hk
def bools:Nat→List (List Bool)
 |0=>[[]]
 |n+1=>(bools n).map (true :: ·)++(bools n).map (false :: ·)
theorem bools_len (n:Nat):(bools n).length=2 ^ n:=by
 induction n with
 |zero=>rfl
 |succ n ih=>simp [bools,ih,Nat.pow_succ];omega
theorem bools_mem:∀l:List Bool,l∈bools l.length
 |[]=>by simp [bools]
 |b::l=>by
  have:=bools_mem l;simp only [List.length_cons,bools,List.mem_append,List.mem_map];cases b with
  |true=>exact .inl ⟨l,this,rfl⟩
  |false=>exact .inr ⟨l,this,rfl⟩
open Classical in
theorem sets_len {α:Type}(U:List α)(all:List (α→Prop))(hn:all.Nodup)(h:∀S∈all,∀r,S r→r∈U):all.length≤2 ^ U.length:=by
 have hc:=nodup_map (fun S:α→Prop=>U.map fun r=>decide (S r)) all hn fun S hS T hT e=>by
  funext r;apply propext;have key:∀r∈U,(S r↔T r):=fun r hr=>by
   obtain ⟨i,hi⟩:=List.getElem?_of_mem hr;have:=congrArg (fun l:List Bool=>l[i]?) e;simp only [List.getElem?_map,hi,Option.map_some,Option.some.injEq] at this;simpa using this
  exact ⟨fun q=>(key r (h S hS r q)).1 q,fun q=>(key r (h T hT r q)).2 q⟩
 have:=nodup_sub_len _ (bools U.length) hc fun x hx=>by
  obtain ⟨S,_,rfl⟩:=List.mem_map.1 hx;have:=bools_mem (U.map fun r=>decide (S r))
  rwa [List.length_map] at this
 rw [List.length_map,bools_len] at this;exact this
def pdAll (e:E):List Rest:=[e]::e.names.flatMap e.pdy
theorem names_nodup (e:E):e.names.Nodup:=by
 have h:=names_rise e;rw [List.pairwise_map] at h;exact h.imp fun hlt e=>absurd hlt (by rw [e];exact List.lt_irrefl _)
theorem pdAll_len (e:E):(pdAll e).length≤1+e.leaves:=by
 have:=pdy_len e.names (names_nodup e) e;simp only [pdAll,List.length_cons,List.length_flatMap];omega
theorem pdAll_leaves {e:E}(hc:e.cnt≤24):(pdAll e).length≤24:=by
 have h1:=pdAll_len e;have h2:=leaves_le e;by_cases h:e.op=110
 ·have:e.leaves=1:=by rw [leaves_eq,if_pos h]
  omega
 ·rcases h2.2 with h2|h2<;>omega
def OfE (e:E)(S:Stt):Prop:=(∀r,S r→r∈pdAll e)∧∃r,S r
theorem pdAll_ok {e:E}(hok:e.ok=true):∀r∈pdAll e,r.length≤e.cnt∧∀k∈r,k.ok=true∧k.cnt≤e.cnt:=fun r hr=>by
 simp only [pdAll,List.mem_cons,List.mem_flatMap] at hr;rcases hr with rfl|⟨y,_,hr⟩
 ·have:1≤e.cnt:=by rw [cnt_eq];omega
  exact ⟨by simpa using this,fun k hk=>by simp at hk;subst hk;exact ⟨hok,Nat.le_refl _⟩⟩
 ·exact pdy_ok y e hok r hr
theorem pdAll_step {e:E}(a:ByteArray):∀r∈pdAll e,∀x∈stepR a r,x∈e.pdy a∧a∈e.names:=fun r hr x hx=>by
 have hm:x∈e.pdy a:=by
  simp only [pdAll,List.mem_cons,List.mem_flatMap] at hr;rcases hr with rfl|⟨y,_,hr⟩
  ·rw [stepR_one] at hx;exact beh_sub a e x hx
  ·exact pdy_closed a y e r hr x hx
 exact ⟨hm,(names_mem e a).2 (pdy_occ a e x hm)⟩
theorem ofE_one (e:E):OfE e (one e):=⟨fun r h=>by rw [h];simp [pdAll],[e],rfl⟩
theorem ofE_step {e:E}{S:Stt}(h:OfE e S)(a:ByteArray)(hx:∃x,stepS a S x):OfE e (stepS a S):=
 ⟨fun x ⟨r,hr,hx⟩=>by
   obtain ⟨h1,h2⟩:=pdAll_step a r (h.1 r hr) x hx;simp only [pdAll,List.mem_cons,List.mem_flatMap];exact .inr ⟨a,h2,h1⟩,hx⟩
open Classical in
theorem wholeM_of (e:E)(i:Nat):∀S∈(wholeM e i).1,OfE e S:=by
 unfold wholeM;refine met_all _ _ _ _ (ofE_one e) (fun S hS T hT=>?_) i;unfold nextsS at hT;obtain ⟨a,_,ha⟩:=List.mem_map.1 hT;split at ha
 ·cases ha;exact ofE_step hS a ‹_›
 ·cases ha
open Classical in
theorem wholeM_len {e:E}(hc:e.cnt≤24)(i:Nat):(wholeM e i).1.length≤BW:=by
 have h:=met_is id (nextsS e.names) (one e) i;have hn:=h.nodup;rw [List.map_id] at hn;have h1:=sets_len (pdAll e) (wholeM e i).1 hn fun S hS=>(wholeM_of e i S hS).1;have h2:=pdAll_leaves hc;have h3:2 ^ (pdAll e).length≤2 ^ 24:=Nat.pow_le_pow_right (by decide) h2;have:2 ^ 24=BW:=rfl;omega
def SL (S:Stt)(w:Row):Prop:=∃r,S r∧restL r w
theorem SL_step {e:E}(hok:e.ok=true){S:Stt}(h:OfE e S)(a:ByteArray)(w:Row):SL S (a::w)↔SL (stepS a S) w:=by
 constructor
 ·rintro ⟨r,hr,hw⟩
  obtain ⟨x,hx,hxw⟩:=(stepR_L a r (fun k hk=>((pdAll_ok hok r (h.1 r hr)).2 k hk).1) w).1 hw;exact ⟨x,⟨r,hr,hx⟩,hxw⟩
 ·rintro ⟨x,⟨r,hr,hx⟩,hxw⟩
  exact ⟨r,hr,(stepR_L a r (fun k hk=>((pdAll_ok hok r (h.1 r hr)).2 k hk).1) w).2 ⟨x,hx,hxw⟩⟩
def wholeL (e:E)(i:Nat)(w:Row):Prop:=∃S,(wholeM e BW).1[i]?=some S∧SL S w
open Classical in
theorem whole_sem (e:E)(hok:e.ok=true)(hc:e.cnt≤24):Sem (whole e) (wholeL e)∧∀w,wholeL e 0 w↔e.L w:=by
 have hM:=met_is id (nextsS e.names) (one e) BW;have hlen:=wholeM_len hc BW;have hof:=wholeM_of e BW;have hM:Met id (nextsS e.names) (one e) BW (wholeM e BW).1 (wholeM e BW).2:=hM;unfold whole wholeL;generalize wholeM e BW=M at hM hlen hof;obtain ⟨all,rows⟩:=M;simp only at hM hlen hof;have h0:=met_pos _ _ _ hM;have hrl:rows.length=all.length:=by rcases hM.many with h|h<;>omega
 have hat:∀i,i<all.length→∃S r,all[i]?=some S∧rows[i]?=some r∧OfE e S:=fun i hi=>⟨all[i],rows[i]'(by omega),by simp,by simp,hof _ (List.getElem_mem _)⟩;have hst:∀(i:Nat) (S:Stt) (r:List Int),all[i]?=some S→rows[i]?=some r→∀a∈e.names,∃t,(Au.mk e.names rows (all.map finS)).stp i a=t∧Says id all (if ∃x,stepS a S x then some (stepS a S) else none) t:=by
  intro i S r hS hr a ha;obtain ⟨g1,g2⟩:=hM.row i S r hS hr;have hix:=ixK_mem ha;have hil:ixK a e.names<r.length:=by rw [g1,nextsS,List.length_map];exact ixK_lt ha
  refine ⟨r[ixK a e.names],?_,g2 (ixK a e.names) _ _ (by simp [nextsS,hix]) (by simp [hil])⟩;simp only [Au.stp];rw [if_neg (by omega),Int.toNat_natCast,hr,Option.getD_some];simp [List.getD,hil]
 refine ⟨⟨⟨?_,?_,?_,?_,?_,?_⟩,?_⟩,?_⟩
 ·show 0<rows.length;omega
 ·show (all.map finS).length=rows.length;rw [List.length_map,hrl]
 ·intro r hr;obtain ⟨i,hi⟩:=List.getElem?_of_mem hr;have hil:=(List.getElem?_eq_some_iff.1 hi).1;have:=(hM.row i all[i] r (by simp) hi).1;rw [this,nextsS,List.length_map]
 ·intro i hi;have hi:i<rows.length:=hi;obtain ⟨S,r,hS,hr,hof⟩:=hat i (by omega);have:(all.map finS).getD i false=finS S:=by simp [List.getD,hS]
  show (all.map finS).getD i false=true↔_;rw [this];constructor
  ·intro h;obtain ⟨r,h1,h2⟩:=of_decide_eq_true h;exact ⟨S,hS,r,h1,(nulR_iff r fun k hk=>((pdAll_ok hok r (hof.1 r h1)).2 k hk).1).1 h2⟩
  ·rintro ⟨S',hS',r,h1,h2⟩
   rw [hS] at hS';cases hS';exact decide_eq_true ⟨r,h1,(nulR_iff r fun k hk=>((pdAll_ok hok r (hof.1 r h1)).2 k hk).1).2 h2⟩
 ·intro i hi a ha;have hi:i<rows.length:=hi;obtain ⟨S,r,hS,hr,hof⟩:=hat i (by omega);obtain ⟨t,h1,h2⟩:=hst i S r hS hr a ha;rw [h1];by_cases hx:∃x,stepS a S x
  ·rw [if_pos hx] at h2;obtain ⟨n,rfl,hn⟩:=h2;rw [List.map_id] at hn;have hnl:=(List.getElem?_eq_some_iff.1 hn).1;refine .inr ⟨n,rfl,?_,fun w=>?_⟩
   ·show n<rows.length;omega
   ·constructor
    ·rintro ⟨S',hS',hw⟩
     rw [hS] at hS';cases hS';exact ⟨_,hn,(SL_step hok hof a w).1 hw⟩
    ·rintro ⟨S',hS',hw⟩
     rw [hn] at hS';cases hS';exact ⟨S,hS,(SL_step hok hof a w).2 hw⟩
  ·rw [if_neg hx] at h2;refine .inl ⟨h2,fun w=>?_⟩
   rintro ⟨S',hS',hw⟩
   rw [hS] at hS';cases hS';obtain ⟨x,hx',_⟩:=(SL_step hok hof a w).1 hw;exact hx ⟨x,hx'⟩
 ·intro i hi a w hw;obtain ⟨S,hS,hw⟩:=hw;have hof:=hof S (List.mem_of_getElem? hS);obtain ⟨x,⟨r,hr,hx⟩,_⟩:=(SL_step hok hof a w).1 hw;exact (pdAll_step a r (hof.1 r hr) x hx).2
 ·intro i hi;have hi:i<rows.length:=hi;obtain ⟨S,r,hS,hr,hof⟩:=hat i (by omega);obtain ⟨r,hr⟩:=hof.2;obtain ⟨w,hw⟩:=restL_some r fun k hk=>((pdAll_ok hok r (hof.1 r hr)).2 k hk).1;exact ⟨w,S,hS,r,hr,hw⟩
 ·intro w;constructor
  ·rintro ⟨S,hS,r,hr,hw⟩
   rw [hM.first] at hS;cases hS;rw [hr] at hw;exact (restL_one e w).1 hw
  ·intro hw;exact ⟨one e,hM.first,[e],rfl,(restL_one e w).2 hw⟩
def PathF (nm:Nat→Option ByteArray)(La:Nat→Prop)(R:Nat→Nat→Prop):Nat→Row→Prop
 |x,[]=>La x
 |x,a::w=>∃y,R x y∧nm y=some a∧PathF nm La R y w
def LG (nm:Nat→Option ByteArray)(F La:Nat→Prop)(R:Nat→Nat→Prop)(eps:Bool):Row→Prop
 |[]=>eps=true
 |a::w=>∃y,F y∧nm y=some a∧PathF nm La R y w
section
variable (nm:Nat→Option ByteArray) (A B:Nat→Prop) (hAB:∀x,A x→¬B x) (F1 L1 F2 L2:Nat→Prop) (R1 R2:Nat→Nat→Prop) (e1 e2:Bool)
 (f1:∀x,F1 x→A x) (l1:∀x,L1 x→A x) (r1:∀x y,A x→R1 x y→A y) (f2:∀x,F2 x→B x) (l2:∀x,L2 x→B x) (r2:∀x y,B x→R2 x y→B y)
include hAB l1 r1 f2 l2 r2
include f1
end
def putN:List Nat→List Nat→List Nat
 |[],k=>k
 |a::l,[]=>a::l
 |a::l,b::k=>if a<b then a::putN l (b::k) else if b<a then b::putN (a::l) k else a::putN l k
termination_by l k=>l.length+k.length
theorem putN_mem (x:Nat):∀(n:Nat) (l k:List Nat),l.length+k.length≤n→(x∈putN l k↔x∈l∨x∈k)
 |_,[],k,_=>by rw [putN];simp
 |_,a::l,[],_=>by rw [putN];simp
 |0,a::l,b::k,h=>by simp at h
 |n+1,a::l,b::k,h=>by
  simp at h;rw [putN];split
  ·rw [List.mem_cons,putN_mem x n l (b::k) (by simp;omega)];simp only [List.mem_cons];exact or_assoc.symm
  ·split
   ·rw [List.mem_cons,putN_mem x n (a::l) k (by simp;omega)];simp only [List.mem_cons];constructor
    ·rintro (h|(h|h)|h)
     ·exact .inr (.inl h)
     ·exact .inl (.inl h)
     ·exact .inl (.inr h)
     ·exact .inr (.inr h)
    ·rintro ((h|h)|h|h)
     ·exact .inr (.inl (.inl h))
     ·exact .inr (.inl (.inr h))
     ·exact .inl h
     ·exact .inr (.inr h)
   ·have:a=b:=(by omega);subst this;rw [List.mem_cons,putN_mem x n l k (by omega)];simp only [List.mem_cons];constructor
    ·rintro (h|h|h)
     ·exact .inl (.inl h)
     ·exact .inl (.inr h)
     ·exact .inr (.inr h)
    ·rintro ((h|h)|h|h)
     ·exact .inl h
     ·exact .inr (.inl h)
     ·exact .inl h
     ·exact .inr (.inr h)
theorem mem_put (x:Nat)(l k:List Nat):x∈putN l k↔x∈l∨x∈k:=putN_mem x _ l k (Nat.le_refl _)
abbrev Rises (l:List Nat):Prop:=l.Pairwise (· < ·)
theorem putN_rises:∀(n:Nat) (l k:List Nat),l.length+k.length≤n→Rises l→Rises k→Rises (putN l k)
 |_,[],k,_,_,h=>by rw [putN];exact h
 |_,a::l,[],_,h,_=>by rw [putN];exact h
 |0,a::l,b::k,h,_,_=>by simp at h
 |n+1,a::l,b::k,h,hl,hk=>by
  simp at h;obtain ⟨l1,l2⟩:=List.pairwise_cons.1 hl;obtain ⟨k1,k2⟩:=List.pairwise_cons.1 hk;rw [putN];split
  ·refine List.pairwise_cons.2 ⟨fun x hx=>?_,putN_rises n l (b::k) (by simp;omega) l2 hk⟩;rcases (mem_put x _ _).1 hx with hx|hx
   ·exact l1 x hx
   ·rcases List.mem_cons.1 hx with rfl|hx
    ·assumption
    ·have:=k1 x hx;omega
  ·split
   ·refine List.pairwise_cons.2 ⟨fun x hx=>?_,putN_rises n (a::l) k (by simp;omega) hl k2⟩;rcases (mem_put x _ _).1 hx with hx|hx
    ·rcases List.mem_cons.1 hx with rfl|hx
     ·assumption
     ·have:=l1 x hx;omega
    ·exact k1 x hx
   ·refine List.pairwise_cons.2 ⟨fun x hx=>?_,putN_rises n l k (by omega) l2 k2⟩;rcases (mem_put x _ _).1 hx with hx|hx
    ·exact l1 x hx
    ·have:=k1 x hx;omega
theorem put_rises {l k:List Nat}(hl:Rises l)(hk:Rises k):Rises (putN l k):=putN_rises _ l k (Nat.le_refl _) hl hk
structure Pl where
 names:List ByteArray
 behind:List (List Nat)
structure Pr where
 pl:Pl
 first:List Nat
 last:List Nat
 empty:Bool
structure Good (n0:Nat) (r:Pr) (L:Row→Prop):Prop where
 len:r.pl.behind.length=r.pl.names.length
 from0:n0≤r.pl.names.length
 fr:Rises r.first
 lr:Rises r.last
 fb:∀x∈r.first,n0≤x∧x<r.pl.names.length
 lb:∀x∈r.last,n0≤x∧x<r.pl.names.length
 br:∀x,n0≤x→Rises (r.pl.behind.getD x [])
 bb:∀x,n0≤x→∀y∈r.pl.behind.getD x [],n0≤y∧y<r.pl.names.length
 mean:∀nm:Nat→Option ByteArray,(∀x,n0≤x→x<r.pl.names.length→nm x=r.pl.names[x]?)→∀w,L w↔LG nm (·∈r.first) (·∈r.last) (fun x y=>y∈r.pl.behind.getD x []) r.empty w
 live:∀nm:Nat→Option ByteArray,(∀x,n0≤x→x<r.pl.names.length→nm x=r.pl.names[x]?)→∀x,n0≤x→x<r.pl.names.length→∃w,PathF nm (·∈r.last) (fun x y=>y∈r.pl.behind.getD x []) x w
structure More (P P':Pl):Prop where
 names:∃m,P'.names=P.names++m
 behind:∀x,x<P.names.length→P'.behind.getD x []=P.behind.getD x []
def NoSep (c:UInt8):Prop:=c≠44∧c≠59
theorem low_sep {c:UInt8}(h:isLow c=true):NoSep c:=by
 constructor<;>(intro e;subst e;cases h)
theorem joinTail_mem (sep:List UInt8)(c:UInt8):∀r:List (List UInt8),c∈Lib.joinTail sep r→c∈sep∨∃x∈r,c∈x
 |[],h=>by simp [Lib.joinTail] at h
 |y::r,h=>by
  have e:Lib.joinTail sep (y::r)=sep++y++Lib.joinTail sep r:=by simp [Lib.joinTail]
  rw [e] at h;rcases List.mem_append.1 h with h|h
  ·rcases List.mem_append.1 h with h|h
   ·exact .inl h
   ·exact .inr ⟨y,by simp,h⟩
  ·rcases joinTail_mem sep c r h with h|⟨x,hx,h⟩
   ·exact .inl h
   ·exact .inr ⟨x,by simp [hx],h⟩
theorem join_mem (sep:List UInt8)(c:UInt8)(l:List (List UInt8))(h:c∈Lib.join l sep):c∈sep∨∃x∈l,c∈x:=by
 cases l with
 |nil=>cases h
 |cons x r=>
  rw [Lib.join_cons] at h;rcases List.mem_append.1 h with h|h
  ·exact .inr ⟨x,by simp,h⟩
  ·rcases joinTail_mem sep c r h with h|⟨y,hy,h⟩
   ·exact .inl h
   ·exact .inr ⟨y,by simp [hy],h⟩
theorem joinB_mem (l:List ByteArray)(sep:ByteArray)(c:UInt8)(h:c∈(joinB l sep).data.toList):c∈sep.data.toList∨∃x∈l,c∈x.data.toList:=by
 simp only [joinB] at h;rcases join_mem _ _ _ h with h|⟨x,hx,h⟩
 ·exact .inl h
 ·obtain ⟨y,hy,rfl⟩:=List.mem_map.1 hx;exact .inr ⟨y,hy,h⟩
theorem text_sep (e:E)(h:e.ok=true)(b:Bool):∀c∈e.txl b,NoSep c:=by
 have hkid:∀k∈e.kids,¬e.op=110→∀b,∀c∈k.txl b,NoSep c:=fun k hk h1 b=>text_sep k (E.ok_kids h h1 k hk).1 b;have hj:¬e.op=110→∀(sep:ByteArray) (b:Bool),(∀c∈sep.data.toList,NoSep c)→∀c∈(joinB (e.kids.map fun k=>k.text b) sep).data.toList,NoSep c:=fun h1 sep b hs c hc=>by
  rcases joinB_mem _ _ _ hc with hc|⟨x,hx,hc⟩
  ·exact hs c hc
  ·obtain ⟨k,hk,rfl⟩:=List.mem_map.1 hx;exact hkid k hk h1 b c hc
 have hpar:∀(b:Bool) (s:ByteArray),(∀c∈s.data.toList,NoSep c)→∀c∈(par b s).data.toList,NoSep c:=fun b s hs c hc=>by
  rw [par_list] at hc;split at hc
  ·rcases List.mem_cons.1 hc with rfl|hc
   ·constructor<;>decide
   ·rcases List.mem_append.1 hc with hc|hc
    ·exact hs c hc
    ·simp at hc;subst hc;constructor<;>decide
  ·exact hs c hc
 have one:∀d:UInt8,NoSep d→∀c∈(⟨#[d]⟩:ByteArray).data.toList,NoSep c:=fun d hd c hc=>by
  simp at hc;subst hc;exact hd
 intro c hc;unfold E.txl at hc;rw [text_eq] at hc;by_cases h1:e.op=110
 ·rw [if_pos h1] at hc;exact low_sep ((name_low6 h h1).1 c hc)
 ·rw [if_neg h1] at hc;by_cases h2:e.op=115
  ·rw [if_pos h2] at hc;split at hc
   ·simp at hc;rcases hc with rfl|rfl<;>(constructor<;>decide)
   ·exact hpar _ _ (hj h1 _ _ (one 32 ⟨by decide,by decide⟩)) c hc
  ·rw [if_neg h2] at hc;by_cases h3:e.op=97
   ·rw [if_pos h3] at hc;exact hpar _ _ (hj h1 _ _ (one 124 ⟨by decide,by decide⟩)) c hc
   ·rw [if_neg h3,app_list] at hc;rcases List.mem_append.1 hc with hc|hc
    ·exact hj h1 _ _ (by simp) c hc
    ·rcases E.ok_opsS h h1 h2 h3 with g|g|g
     ·rw [g,enc42] at hc;exact one 42 ⟨by decide,by decide⟩ c hc
     ·rw [g,enc43] at hc;exact one 43 ⟨by decide,by decide⟩ c hc
     ·rw [g,enc63] at hc;exact one 63 ⟨by decide,by decide⟩ c hc
termination_by SizeOf.sizeOf e
decreasing_by exact E.kids_lt hk
theorem sep_split (c:UInt8):∀ {x y t u:List UInt8},c∉x→c∉y→(t = []∨t.head?=some c)→(u = []∨u.head?=some c)→x++t=y++u→x=y∧t=u
 |[],[],t,u,_,_,_,_,h=>⟨rfl,h⟩
 |[],b::y,t,u,_,hy,ht,_,h=>by
  exfalso;simp only [List.nil_append,List.cons_append] at h;rcases ht with rfl|ht
  ·cases h
  ·rw [h] at ht;simp at ht;exact hy (by simp [ht])
 |a::x,[],t,u,hx,_,_,hu,h=>by
  exfalso;simp only [List.nil_append,List.cons_append] at h;rcases hu with rfl|hu
  ·cases h
  ·rw [←h] at hu;simp at hu;exact hx (by simp [hu])
 |a::x,b::y,t,u,hx,hy,ht,hu,h=>by
  simp only [List.cons_append,List.cons.injEq] at h;obtain ⟨rfl,h⟩:=h;obtain ⟨h1,h2⟩:=sep_split c (fun q=>hx (by simp [q])) (fun q=>hy (by simp [q])) ht hu h;exact ⟨by rw [h1],h2⟩
theorem joinTail_head (c:UInt8)(r:List (List UInt8)):Lib.joinTail [c] r = []∨(Lib.joinTail [c] r).head?=some c:=by
 cases r with
 |nil=>exact .inl rfl
 |cons y r=>exact .inr (by simp [Lib.joinTail])
theorem joinTail_inj (c:UInt8):∀ {l m:List (List UInt8)},(∀x∈l,c∉x)→(∀x∈m,c∉x)→Lib.joinTail [c] l=Lib.joinTail [c] m→l=m
 |[],[],_,_,_=>rfl
 |[],y::m,_,_,h=>by simp [Lib.joinTail] at h
 |x::l,[],_,_,h=>by simp [Lib.joinTail] at h
 |x::l,y::m,hl,hm,h=>by
  have e:∀(z:List UInt8) (r:List (List UInt8)),Lib.joinTail [c] (z::r)=c::(z++Lib.joinTail [c] r):=fun z r=>by simp [Lib.joinTail]
  rw [e,e] at h;obtain ⟨h1,h2⟩:=sep_split c (hl x (by simp)) (hm y (by simp)) (joinTail_head c l) (joinTail_head c m) (List.cons.inj h).2;rw [h1,joinTail_inj c (fun z hz=>hl z (by simp [hz])) (fun z hz=>hm z (by simp [hz])) h2]
theorem join_inj (c:UInt8){l m:List (List UInt8)}(hl:∀x∈l,c∉x)(hm:∀x∈m,c∉x)(h1:l≠[])(h2:m≠[])(h:Lib.join l [c]=Lib.join m [c]):l=m:=by
 match l,m,h1,h2 with
 |x::l,y::m,_,_=>
  rw [Lib.join_cons,Lib.join_cons] at h;obtain ⟨h3,h4⟩:=sep_split c (hl x (by simp)) (hm y (by simp)) (joinTail_head c l) (joinTail_head c m) h;rw [h3,joinTail_inj c (fun z hz=>hl z (by simp [hz])) (fun z hz=>hm z (by simp [hz])) h4]
theorem joinB_inj (c:UInt8){l m:List ByteArray}(hl:∀x∈l,c∉x.data.toList)(hm:∀x∈m,c∉x.data.toList)(h1:l≠[])(h2:m≠[])(h:joinB l ⟨#[c]⟩=joinB m ⟨#[c]⟩):l=m:=by
 have h3:Lib.join (l.map (·.data.toList)) [c]=Lib.join (m.map (·.data.toList)) [c]:=by
  have:=congrArg (·.data.toList) h;simpa [joinB] using this
 have:=join_inj c (l:=l.map (·.data.toList)) (m:=m.map (·.data.toList)) (fun x hx=>by obtain ⟨y,hy,rfl⟩:=List.mem_map.1 hx;exact hl y hy) (fun x hx=>by obtain ⟨y,hy,rfl⟩:=List.mem_map.1 hx;exact hm y hy) (by simpa using h1) (by simpa using h2) h3;have h5:=congrArg (List.map fun x:List UInt8=>(⟨x.toArray⟩:ByteArray)) this;simpa [List.map_map,Function.comp_def] using h5
def Tame (e:E):Prop:=e.ok=true∧e.cnt≤24
theorem tame_right {e:E}(h:Tame e):e.right=true:=by
 have:=many_cnt e (by have:=h.2;omega);have h2:=h.2;simp only [E.right,Bool.and_eq_true,decide_eq_true_eq];exact ⟨by omega,h.1⟩
theorem right_tame {e:E}(h:e.right=true)(hc:e.cnt≤1000000000):Tame e:=by
 have:=many_cnt e hc;simp only [E.right,Bool.and_eq_true,decide_eq_true_eq] at h;exact ⟨h.2,by omega⟩
theorem text_inj {e f:E}(he:Tame e)(hf:Tame f)(h:e.text false=f.text false):e=f:=by
 have h1:=parse_text e (tame_right he) (by have:=he.2;omega);have h2:=parse_text f (tame_right hf) (by have:=hf.2;omega);rw [h,h2] at h1;exact (Prod.mk.inj h1).1.symm
def TameR (r:Rest):Prop:=r.length≤24∧∀k∈r,Tame k
def rtext (r:Rest):ByteArray:=joinB (r.map fun e=>e.text false) ⟨#[44]⟩
theorem rtext_sep {r:Rest}(h:TameR r):∀c∈(rtext r).data.toList,c≠59:=fun c hc=>by
 rcases joinB_mem _ _ _ hc with hc|⟨x,hx,hc⟩
 ·simp at hc;subst hc;decide
 ·obtain ⟨k,hk,rfl⟩:=List.mem_map.1 hx;exact (text_sep k (h.2 k hk).1 false c hc).2
theorem rtext_ne {k:E}{r:Rest}(h:TameR (k::r)):rtext (k::r)≠⟨#[]⟩:=fun e=>by
 obtain ⟨c,l,h1,_⟩:=head_ok k (h.2 k (by simp)).1 false;have h2:=congrArg (·.data.toList) e;have h1':(k.text false).data.toList=c::l:=h1;simp [rtext,joinB,Lib.join_cons,h1'] at h2
theorem rtext_inj {r s:Rest}(hr:TameR r)(hs:TameR s)(h:rtext r=rtext s):r=s:=by
 match r,s,hr,hs with
 |[],[],_,_=>rfl
 |[],k::s,_,hs=>exact absurd h.symm (rtext_ne hs)
 |k::r,[],hr,_=>exact absurd h (rtext_ne hr)
 |k::r,j::s,hr,hs=>
  have h1:=joinB_inj 44 (l:=(k::r).map fun e=>e.text false) (m:=(j::s).map fun e=>e.text false) (fun x hx q=>by
   obtain ⟨e,he,rfl⟩:=List.mem_map.1 hx;exact (text_sep e (hr.2 e he).1 false 44 q).1 rfl) (fun x hx q=>by
   obtain ⟨e,he,rfl⟩:=List.mem_map.1 hx;exact (text_sep e (hs.2 e he).1 false 44 q).1 rfl) (by simp) (by simp) (by unfold rtext at h;exact h)
  have key:∀(a b:List E),(∀k∈a,Tame k)→(∀k∈b,Tame k)→a.map (fun e=>e.text false)=b.map (fun e=>e.text false)→a=b:=by
   intro a;induction a with
   |nil=>intro b _ _ h;cases b with
    |nil=>rfl
    |cons y b=>simp at h
   |cons x a ih=>
    intro b ha hb h;cases b with
    |nil=>simp at h
    |cons y b=>
     simp only [List.map_cons,List.cons.injEq] at h;rw [text_inj (ha x (by simp)) (hb y (by simp)) h.1,ih b (fun k hk=>ha k (by simp [hk])) (fun k hk=>hb k (by simp [hk])) h.2]
  exact key _ _ hr.2 hs.2 h1
theorem rtext_size {r:Rest}(h:TameR r):(rtext r).size≤10000:=by
 refine Nat.le_trans (join_size _ _) ?_;have e44:(⟨#[44]⟩:ByteArray).size=1:=rfl;simp only [List.map_map,Function.comp_def,e44];have key:∀l:List E,(∀k∈l,Tame k)→(l.map fun e:E=>(e.text false).size+1).sum≤385*l.length:=by
  intro l;induction l with
  |nil=>simp
  |cons x l ih=>
   intro hl;have h1:=ih fun k hk=>hl k (by simp [hk]);have h2:=text_size x false (hl x (by simp)).1;have h3:=(hl x (by simp)).2;simp only [List.map_cons,List.sum_cons,List.length_cons];omega
 have h1:=key r h.2;have h2:=h.1;omega
def sortB (l:List ByteArray):List ByteArray:=((l.map (·.data.toList)).mergeSort fun x y=>decide (x≤y)).map fun l=>⟨l.toArray⟩
theorem sortB_perm {l m:List ByteArray}(h:l.Perm m):sortB l=sortB m:=by
 unfold sortB;rw [sort_perm (h.map _)]
theorem sortB_of (l:List ByteArray):(sortB l).Perm l:=by
 have h:=(List.mergeSort_perm (l.map (·.data.toList)) fun x y=>decide (x≤y)).map fun l=>(⟨l.toArray⟩:ByteArray);simpa [sortB,List.map_map,Function.comp_def] using h
theorem sortB_len (l:List ByteArray):(sortB l).length=l.length:=(sortB_of l).length_eq
theorem sortB_mem (l:List ByteArray)(x:ByteArray):x∈sortB l↔x∈l:=(sortB_of l).mem_iff
def skeyL (l:List Rest):ByteArray:=joinB (sortB (l.map rtext)) ⟨#[59]⟩
def Lists (S:Stt)(l:List Rest):Prop:=l.Nodup∧∀r,r∈l↔S r
theorem lists_perm {S:Stt}{l m:List Rest}(h:Lists S l)(h':Lists S m):l.Perm m:=(List.perm_ext_iff_of_nodup h.1 h'.1).2 fun r=>(h.2 r).trans (h'.2 r).symm
open Classical in
theorem lists_of (S:Stt):∀(U:List Rest),∃l:List Rest,l.Nodup∧∀r,r∈l↔r∈U∧S r
 |[]=>⟨[],by simp,by simp⟩
 |u::U=>by
  obtain ⟨l,h1,h2⟩:=lists_of S U;by_cases h:S u∧u∉l
  ·refine ⟨u::l,List.nodup_cons.2 ⟨h.2,h1⟩,fun r=>?_⟩;simp only [List.mem_cons,h2 r];constructor
   ·rintro (rfl|⟨g1,g2⟩)
    ·exact ⟨.inl rfl,h.1⟩
    ·exact ⟨.inr g1,g2⟩
   ·rintro ⟨rfl|g1,g2⟩
    ·exact .inl rfl
    ·exact .inr ⟨g1,g2⟩
  ·refine ⟨l,h1,fun r=>?_⟩;simp only [List.mem_cons,h2 r];constructor
   ·rintro ⟨g1,g2⟩;exact ⟨.inr g1,g2⟩
   ·rintro ⟨rfl|g1,g2⟩
    ·have h3:r∈l:=Classical.byContradiction fun q=>h ⟨g2,q⟩;exact (h2 r).1 h3
    ·exact ⟨g1,g2⟩
theorem lists_some {e:E}{S:Stt}(h:∀r,S r→r∈pdAll e):∃l,Lists S l:=by
 obtain ⟨l,h1,h2⟩:=lists_of S (pdAll e);exact ⟨l,h1,fun r=>(h2 r).trans ⟨fun q=>q.2,fun q=>⟨h r q,q⟩⟩⟩
theorem lists_len {e:E}(hc:e.cnt≤24){S:Stt}(h:∀r,S r→r∈pdAll e){l:List Rest}(hl:Lists S l):l.length≤24:=
 Nat.le_trans (nodup_sub_len l (pdAll e) hl.1 fun r hr=>h r ((hl.2 r).1 hr)) (pdAll_leaves hc)
theorem pdAll_tame {e:E}(h:Tame e):∀r∈pdAll e,TameR r:=fun r hr=>by
 obtain ⟨h1,h2⟩:=pdAll_ok h.1 r hr;have:=h.2;exact ⟨by omega,fun k hk=>⟨(h2 k hk).1,by have:=(h2 k hk).2;omega⟩⟩
open Classical in
noncomputable def skey (S:Stt):ByteArray:=if h:∃l,Lists S l then skeyL h.choose else ⟨#[]⟩
theorem skeyL_perm {l m:List Rest}(h:l.Perm m):skeyL l=skeyL m:=by
 unfold skeyL;rw [sortB_perm (h.map _)]
theorem skey_eq {S:Stt}{l:List Rest}(h:Lists S l):skey S=skeyL l:=by
 have hx:∃l,Lists S l:=⟨l,h⟩;unfold skey;rw [dif_pos hx];exact skeyL_perm (lists_perm hx.choose_spec h)
theorem skey_inj {e:E}(h:Tame e){S T:Stt}(hS:OfE e S)(hT:OfE e T)(hk:skey S=skey T):S=T:=by
 obtain ⟨l,hl⟩:=lists_some hS.1;obtain ⟨m,hm⟩:=lists_some hT.1;rw [skey_eq hl,skey_eq hm] at hk;have tl:∀r∈l,TameR r:=fun r hr=>pdAll_tame h r (hS.1 r ((hl.2 r).1 hr));have tm:∀r∈m,TameR r:=fun r hr=>pdAll_tame h r (hT.1 r ((hm.2 r).1 hr));have hne:∀ {S:Stt} {l:List Rest},OfE e S→Lists S l→sortB (l.map rtext)≠[]:=fun {S l} hS hl q=>by
  obtain ⟨r,hr⟩:=hS.2;have h1:=congrArg List.length q;rw [sortB_len] at h1;have h2:=List.length_pos_of_mem ((hl.2 r).2 hr);simp at h1;subst h1;simp at h2
 have key:=joinB_inj 59 (fun x hx q=>by
  rw [sortB_mem] at hx;obtain ⟨r,hr,rfl⟩:=List.mem_map.1 hx;exact rtext_sep (tl r hr) 59 q rfl) (fun x hx q=>by
  rw [sortB_mem] at hx;obtain ⟨r,hr,rfl⟩:=List.mem_map.1 hx;exact rtext_sep (tm r hr) 59 q rfl) (hne hS hl) (hne hT hm) hk
 have hmem:∀x,x∈l.map rtext↔x∈m.map rtext:=fun x=>by rw [←sortB_mem,←sortB_mem (m.map rtext),key]
 funext r;apply propext;constructor
 ·intro hr;obtain ⟨s,hs,he⟩:=List.mem_map.1 ((hmem (rtext r)).1 (List.mem_map.2 ⟨r,(hl.2 r).2 hr,rfl⟩));rw [←rtext_inj (tm s hs) (tl r ((hl.2 r).2 hr)) he];exact (hm.2 s).1 hs
 ·intro hr;obtain ⟨s,hs,he⟩:=List.mem_map.1 ((hmem (rtext r)).2 (List.mem_map.2 ⟨r,(hm.2 r).2 hr,rfl⟩));rw [←rtext_inj (tl s hs) (tm r ((hm.2 r).2 hr)) he];exact (hl.2 s).1 hs
end Go.Proofs.D
namespace Go.Proofs.D
open Go Go.Abs
theorem cube_le:∀g:Nat,0<g→g ^ 3≤3 ^ g:=by
 have key:∀k,(k+3) ^ 3≤3 ^ (k+3):=by
  intro k;induction k with
  |zero=>decide
  |succ k ih=>
   have e:3 ^ (k+1+3)=3*3 ^ (k+3):=by rw [show k+1+3=(k+3)+1 by omega,Nat.pow_succ];omega
   have h:(3*(k+1+3)) ^ 3≤(4*(k+3)) ^ 3:=Nat.pow_le_pow_left (by omega) 3;rw [Nat.mul_pow,Nat.mul_pow] at h;omega
 intro g hg
 match g,hg with
 |1,_=>decide
 |2,_=>decide
 |k+3,_=>exact key k
theorem least_nat {p:Nat→Prop}(h:∃n,p n):∃n,p n∧∀m,p m→n≤m:=by
 obtain ⟨n,hn⟩:=h;induction n using Nat.strongRecOn with
 |_ n ih=>
  by_cases hx:∃m,m<n∧p m
  ·obtain ⟨m,h1,h2⟩:=hx;exact ih m h1 h2
  ·exact ⟨n,hn,fun m hm=>Classical.byContradiction fun h=>hx ⟨m,by omega,hm⟩⟩
theorem prod_of:∀(n:Nat) (l:List Nat),l.length≤n→(∀g∈l,0<g∧g≤(l.filter fun x=>decide (x=g)).length)→∃P,0<P∧P ^ 3≤3 ^ l.length∧∀g∈l,∃q,P=g*q:=by
 intro n;induction n with
 |zero=>
  intro l hl _;have hl0:l.length=0:=by omega
  obtain rfl:=List.eq_nil_of_length_eq_zero hl0;exact ⟨1,by decide,by decide,fun g h=>by cases h⟩
 |succ n ih=>
  intro l hl h;cases l with
  |nil=>exact ⟨1,by decide,by decide,fun g h=>by cases h⟩
  |cons g r=>
   obtain ⟨hg0,hg⟩:=h g (by simp);have hsplit:∀l:List Nat,l.length=(l.filter fun x=>decide (x=g)).length+(l.filter fun x=>!decide (x=g)).length:=by
    intro l;induction l with
    |nil=>rfl
    |cons x l ih=>
     by_cases hx:x=g
     ·simp [hx];omega
     ·simp [hx];omega
   have hs:=hsplit (g::r);have hkeep:∀y∈((g::r).filter fun x=>!decide (x=g)),y∈g::r∧y≠g:=fun y hy=>by
    have:=List.mem_filter.1 hy;exact ⟨this.1,by simpa using this.2⟩
   have hcnt:∀y,y≠g→∀l:List Nat,((l.filter fun x=>!decide (x=g)).filter fun x=>decide (x=y))=l.filter fun x=>decide (x=y):=fun y hy l=>by
    rw [List.filter_filter];congr 1;funext x;by_cases hx:x=y
    ·simp [hx,hy]
    ·simp [hx]
   generalize hm:((g::r).filter fun x=>!decide (x=g))=m at hs hkeep hcnt;obtain ⟨P,h0,h1,h2⟩:=ih m (by omega) fun y hy=>by
    obtain ⟨a,b⟩:=hkeep y hy;have:=h y a;rw [←hm,hcnt y b (g::r)];exact this
   refine ⟨g*P,Nat.mul_pos hg0 h0,?_,fun y hy=>?_⟩
   ·rw [Nat.mul_pow];refine Nat.le_trans (Nat.mul_le_mul (cube_le g hg0) h1) ?_;rw [←Nat.pow_add];exact Nat.pow_le_pow_right (by decide) (by omega)
   ·by_cases hyg:y=g
    ·exact ⟨P,by rw [hyg]⟩
    ·obtain ⟨q,hq⟩:=h2 y (by rw [←hm];exact List.mem_filter.2 ⟨hy,by simp [hyg]⟩);exact ⟨g*q,by rw [hq,←Nat.mul_assoc,Nat.mul_comm g y,Nat.mul_assoc]⟩
section
variable {α:Type} (E:α→α→Prop)
def Walk:Nat→α→α→Prop
 |0,p,q=>p=q
 |m+1,p,q=>∃r,Walk m p r∧E r q
theorem Walk.trans {p q r:α}{m:Nat}(h:Walk E m p q):∀ {n:Nat},Walk E n q r→Walk E (m+n) p r:=by
 intro n;induction n generalizing r with
 |zero=>intro h';have:q=r:=h';exact this ▸ h
 |succ n ih=>rintro ⟨s,h1,h2⟩;exact ⟨s,ih h1,h2⟩
theorem Walk.split {p q:α}:∀ {m n:Nat},Walk E (m+n) p q→∃r,Walk E m p r∧Walk E n r q:=by
 intro m n;induction n generalizing q with
 |zero=>exact fun h=>⟨q,h,rfl⟩
 |succ n ih=>
  rintro ⟨s,h1,h2⟩
  obtain ⟨r,a,b⟩:=ih h1;exact ⟨r,a,s,b,h2⟩
variable (S:Nat→α→Prop) (hS:∀k x,S (k+1) x↔∃p,S k p∧E p x)
include hS
theorem walk_on {k m:Nat}{p q:α}(hp:S k p)(h:Walk E m p q):S (k+m) q:=by
 induction m generalizing q with
 |zero=>have:p=q:=h;exact this ▸ hp
 |succ m ih=>
  obtain ⟨r,h1,h2⟩:=h;exact (hS _ _).2 ⟨r,ih h1,h2⟩
theorem again_on {i j:Nat}(he:S i=S j)(d:Nat):S (i+d)=S (j+d):=by
 induction d with
 |zero=>exact he
 |succ d ih=>
  funext x;apply propext;have e1:=hS (i+d) x;have e2:=hS (j+d) x;rw [ih] at e1;exact e1.trans e2.symm
open Classical in
theorem comes_round (V:List α)(hV:∀k x,S (k+1) x→x∈V):∃i P,i≤2 ^ V.length+1∧0<P∧P ^ 3≤3 ^ V.length∧∀k,i≤k→S (k+P)=S k:=by
 -- two of them are one
 obtain ⟨i,l,hi1,hil,hl,he⟩:∃i l,1≤i∧i≤2 ^ V.length+1∧0<l∧S (i+l)=S i:=by
  refine Classical.byContradiction fun hno=>?_;have hnd:((List.range (2 ^ V.length+1)).map fun k=>S (k+1)).Nodup:=nodup_map _ _ List.nodup_range fun x hx y hy e=>by
   have hx:=List.mem_range.1 hx;have hy:=List.mem_range.1 hy;rcases Nat.lt_trichotomy x y with g|g|g
   ·exact absurd ⟨x+1,y-x,by omega,by omega,by omega,by rw [show x+1+(y-x)=y+1 by omega];exact e.symm⟩ hno
   ·exact g
   ·exact absurd ⟨y+1,x-y,by omega,by omega,by omega,by rw [show y+1+(x-y)=x+1 by omega];exact e⟩ hno
  have:=sets_len V _ hnd fun T hT r hr=>by
   obtain ⟨k,_,rfl⟩:=List.mem_map.1 hT;exact hV k r hr
  simp only [List.length_map,List.length_range] at this;omega
 have per:∀k,i≤k→∀n,S (k+l*n)=S k:=by
  intro k hk n;induction n with
  |zero=>rfl
  |succ n ih=>
   have:=again_on E S hS (i:=i+l) (j:=i) he (k-i+l*n);rw [show i+l+(k-i+l*n)=k+l*(n+1) by rw [Nat.mul_succ];omega,show i+(k-i+l*n)=k+l*n by omega] at this;rw [this,ih]
 -- by which numbers one of them comes back
 let K:α→Nat→Prop:=fun q m=>∀k,i≤k→S k q→S (k+m) q
 have Kn:∀q m,K q m→∀n k,i≤k→S k q→S (k+m*n) q:=by
  intro q m h n;induction n with
  |zero=>intro k _ hq;exact hq
  |succ n ih=>
   intro k hk hq;rw [show k+m*(n+1)=(k+m*n)+m by rw [Nat.mul_succ];omega];exact h _ (by omega) (ih k hk hq)
 have Kback:∀q m,K q m→∀k,i≤k→S (k+m) q→S k q:=by
  intro q m h k hk hq;have:=Kn q m h (l-1) (k+m) (by omega) hq
  rw [show k + m + m * (l - 1) = k + l * m by rw [Nat.mul_comm l m]; have : m * l = m * (l - 1) + m := by rw [← Nat.mul_succ]; congr 1; omega
                                              omega,per k hk m] at this
  exact this
 have Kdiff:∀q m m',m≤m'→K q m→K q m'→K q (m'-m):=by
  intro q m m' hm h h' k hk hq;have:=h' k hk hq;rw [show k+m'=k+(m'-m)+m by omega] at this;exact Kback q m h _ (by omega) this
 have Kl:∀q,K q l:=fun q k hk hq=>by have:=per k hk 1;rw [Nat.mul_one] at this;rw [this];exact hq
 have Kcyc:∀q c,Walk E c q q→K q c:=fun q c h k hk hq=>walk_on E S hS hq h;have gex:∀q,∃n,(0<n∧K q n)∧∀m,(0<m∧K q m)→n≤m:=fun q=>least_nat ⟨l,hl,Kl q⟩
 let g:α→Nat:=fun q=>(gex q).choose
 have gs:∀q,0<g q∧K q (g q):=fun q=>(gex q).choose_spec.1;have gm:∀q m,0<m→K q m→g q≤m:=fun q m h0 h=>(gex q).choose_spec.2 m ⟨h0,h⟩
 let Cy:α→Prop:=fun q=>(∃c,0<c∧Walk E c q q)∧∃k,i≤k∧S k q
 -- those that come back alike are as many,at least
 have hcount:∀q,Cy q→g q≤(V.filter fun v=>decide (Cy v∧g v=g q)).length:=by
  rintro q ⟨⟨c,hc,hw⟩,k0,hk0,hq0⟩
  have hgc:=gm q c hc (Kcyc q c hw);have hv:∀t,∃v,t≤c→Walk E t q v∧Walk E (c-t) v q:=fun t=>by
   by_cases ht:t≤c
   ·have hw':=hw;rw [show c=t+(c-t) by omega] at hw';obtain ⟨v,a,b⟩:=Walk.split E hw';exact ⟨v,fun _=>⟨a,b⟩⟩
   ·exact ⟨q,fun h=>absurd h ht⟩
  let v:Nat→α:=fun t=>(hv t).choose
  have hvs:∀t,t≤c→Walk E t q (v t)∧Walk E (c-t) (v t) q:=fun t=>(hv t).choose_spec;have hloop:∀t,t≤c→Walk E c (v t) (v t):=fun t ht=>by
   have:=Walk.trans E (hvs t ht).2 (hvs t ht).1
   rwa [show c-t+t=c by omega] at this
  have hKv:∀t,t≤c→∀m,K q m↔K (v t) m:=by
   intro t ht m;constructor
   ·intro h k hk hq;have h1:=walk_on E S hS hq (hvs t ht).2;have h2:=h _ (by omega) h1;have h3:=walk_on E S hS h2 (hvs t ht).1;rw [show k+(c-t)+m+t=k+m+c by omega] at h3;exact Kback _ _ (Kcyc _ _ (hloop t ht)) _ (by omega) h3
   ·intro h k hk hq;have h1:=walk_on E S hS hq (hvs t ht).1;have h2:=h _ (by omega) h1;have h3:=walk_on E S hS h2 (hvs t ht).2;rw [show k+t+m+(c-t)=k+m+c by omega] at h3;exact Kback _ _ (Kcyc _ _ hw) _ (by omega) h3
  have hgv:∀t,t≤c→g (v t)=g q:=fun t ht=>by
   refine Nat.le_antisymm (gm _ _ (gs q).1 ((hKv t ht _).1 (gs q).2)) (gm _ _ (gs (v t)).1 ((hKv t ht _).2 (gs (v t)).2))
  have hnd:((List.range (g q)).map v).Nodup:=nodup_map _ _ List.nodup_range fun x hx y hy e=>by
   have hx:=List.mem_range.1 hx;have hy:=List.mem_range.1 hy;have key:∀x y,x<y→y<g q→v x=v y→False:=fun x y hxy hyg e=>by
    have h1:=(hvs x (by omega)).1;have h2:=(hvs y (by omega)).2;rw [←e] at h2;have h3:=Kcyc q _ (Walk.trans E h1 h2);have h4:=Kdiff q _ _ (by omega:x+(c-y)≤c) h3 (Kcyc q c hw);have:=gm q (c-(x+(c-y))) (by omega) h4;omega
   rcases Nat.lt_trichotomy x y with h|h|h
   ·exact (key x y h hy e).elim
   ·exact h
   ·exact (key y x h hx e.symm).elim
  have:=nodup_sub_len _ (V.filter fun v=>decide (Cy v∧g v=g q)) hnd fun x hx=>by
   obtain ⟨t,ht,rfl⟩:=List.mem_map.1 hx;have ht:=List.mem_range.1 ht;have hact:=walk_on E S hS hq0 (hvs t (by omega)).1;refine List.mem_filter.2 ⟨?_,decide_eq_true ⟨⟨⟨c,hc,hloop t (by omega)⟩,k0+t,by omega,hact⟩,hgv t (by omega)⟩⟩;obtain ⟨n,hn⟩:∃n,k0+t=n+1:=⟨k0+t-1,by omega⟩;rw [hn] at hact;exact hV n _ hact
  simpa using this
 obtain ⟨P,hP0,hP3,hPd⟩:=prod_of _ ((V.filter fun v=>decide (Cy v)).map g) (Nat.le_refl _) fun y hy=>by
  obtain ⟨q,hq,rfl⟩:=List.mem_map.1 hy;have hcy:=of_decide_eq_true (List.mem_filter.1 hq).2;refine ⟨(gs q).1,?_⟩;have h1:=hcount q hcy;have e:(((V.filter fun v=>decide (Cy v)).map g).filter fun x=>decide (x=g q)).length=(V.filter fun v=>decide (Cy v∧g v=g q)).length:=by
   rw [List.filter_map,List.length_map,List.filter_filter];congr 2;funext v;simp [Bool.and_comm]
  rw [e];exact h1
 have hKP:∀q,q∈V→Cy q→K q P:=fun q hqV hq=>by
  obtain ⟨n,hn⟩:=hPd (g q) (List.mem_map.2 ⟨q,List.mem_filter.2 ⟨hqV,decide_eq_true hq⟩,rfl⟩);intro k hk hqk;rw [hn];exact Kn q _ (gs q).2 n k hk hqk
 have hsub:∀k,i≤k→∀p,S k p→S (k+P) p:=by
  intro k hk p hp;have hbig:i+V.length≤k+l*(V.length+1):=by
   have:V.length+1≤l*(V.length+1):=Nat.le_mul_of_pos_left _ hl;omega
  rw [←per k hk (V.length+1)] at hp;obtain ⟨b,hb⟩:∃b,k+l*(V.length+1)=b+V.length:=⟨k+l*(V.length+1)-V.length,by omega⟩;rw [hb] at hp;have hbi:i≤b:=by omega
  -- a walk,vertex by vertex
  have walk:∃f:Nat→α,f V.length=p∧(∀t,t≤V.length→S (b+t) (f t))∧∀t,t<V.length→E (f t) (f (t+1)):=by
   have gen:∀n p,S (b+n) p→∃f:Nat→α,f n=p∧(∀t,t≤n→S (b+t) (f t))∧∀t,t<n→E (f t) (f (t+1)):=by
    intro n;induction n with
    |zero=>exact fun p hp=>⟨fun _=>p,rfl,fun t ht=>by rw [show t=0 by omega];exact hp,fun t ht=>by omega⟩
    |succ n ih=>
     intro p hp;obtain ⟨r,h1,h2⟩:=(hS (b+n) p).1 hp;obtain ⟨f,a1,a2,a3⟩:=ih r h1;have hno1:¬n+1≤n:=(by omega);refine ⟨fun t=>if t≤n then f t else p,(by simp only [hno1,if_false]),fun t ht=>?_,fun t ht=>?_⟩
     ·by_cases h:t≤n
      ·simp only [h,if_true];exact a2 t h
      ·simp only [h,if_false];rw [show t=n+1 by omega];exact hp
     ·by_cases h:t+1≤n
      ·simp only [show t≤n by omega,h,if_true];exact a3 t (by omega)
      ·have:t=n:=(by omega);subst this;simp only [Nat.le_refl,if_true,h,if_false];rw [a1];exact h2
   exact gen V.length p hp
  obtain ⟨f,f1,f2,f3⟩:=walk;have fw:∀s t,s≤t→t≤V.length→Walk E (t-s) (f s) (f t):=by
   intro s t hst ht;obtain ⟨d,rfl⟩:∃d,t=s+d:=⟨t-s,by omega⟩;rw [show s+d-s=d by omega];clear hst;induction d with
   |zero=>exact rfl
   |succ d ih=>exact ⟨f (s+d),ih (by omega),f3 (s+d) (by omega)⟩
  obtain ⟨s,t,hst,ht,hf⟩:∃s t,s<t∧t≤V.length∧f s=f t:=by
   refine Classical.byContradiction fun hno=>?_;have hnd:((List.range (V.length+1)).map f).Nodup:=nodup_map _ _ List.nodup_range fun x hx y hy e=>by
    have hx:=List.mem_range.1 hx;have hy:=List.mem_range.1 hy;rcases Nat.lt_trichotomy x y with g|g|g
    ·exact absurd ⟨x,y,g,by omega,e⟩ hno
    ·exact g
    ·exact absurd ⟨y,x,g,by omega,e.symm⟩ hno
   have:=nodup_sub_len _ V hnd fun x hx=>by
    obtain ⟨t,ht,rfl⟩:=List.mem_map.1 hx;have ht:=List.mem_range.1 ht;have:=f2 t (by omega);obtain ⟨n,hn⟩:∃n,b+t=n+1:=⟨b+t-1,by omega⟩;rw [hn] at this;exact hV n _ this
   simp only [List.length_map,List.length_range] at this;omega
  have hfs:=f2 s (by omega);have hsV:f s∈V:=by
   obtain ⟨n,hn⟩:∃n,b+s=n+1:=⟨b+s-1,by omega⟩;have:=hfs;rw [hn] at this;exact hV n _ this
  have hcy:Cy (f s):=⟨⟨t-s,by omega,by have:=fw s t (by omega) ht;rwa [←hf] at this⟩,b+s,by omega,hfs⟩;have h1:=hKP _ hsV hcy (b+s) (by omega) hfs;have h2:=walk_on E S hS h1 (fw s V.length (by omega) (Nat.le_refl _));rw [f1,show b+s+P+(V.length-s)=(k+P)+l*(V.length+1) by omega] at h2
  rwa [per (k+P) (by omega)] at h2
 refine ⟨i,P,hil,hP0,?_,fun k hk=>?_⟩
 ·refine Nat.le_trans hP3 (Nat.pow_le_pow_right (by decide) ?_);rw [List.length_map];exact List.length_filter_le _ _
 ·funext p;apply propext;constructor
  ·intro h;have many:∀n,S (k+P) p→S (k+P+P*n) p:=by
    intro n hp;induction n with
    |zero=>exact hp
    |succ n ih=>
     rw [show k+P+P*(n+1)=(k+P+P*n)+P by rw [Nat.mul_succ];omega];exact hsub _ (by omega) p ih
   have:=many (l-1) h
   rw [show k + P + P * (l - 1) = k + l * P by rw [Nat.mul_comm l P]; have : P * l = P * (l - 1) + P := by rw [← Nat.mul_succ]; congr 1; omega
                                               omega,per k hk] at this
   exact this
  ·exact hsub k hk p
end
end Go.Proofs.D
namespace Go.Proofs.D
open Go Go.Abs
def Under (n:Nat)(l:List Nat):Prop:=Rises l∧∀x∈l,x<n
theorem Under.put {n:Nat}{l k:List Nat}(h:Under n l)(h':Under n k):Under n (putN l k):=⟨put_rises h.1 h'.1,fun x hx=>((mem_put x l k).1 hx).elim (h.2 x) (h'.2 x)⟩
structure WkP (P:Pl):Prop where
 len:P.behind.length=P.names.length
 bh:∀b∈P.behind,Under P.names.length b
structure Wk (r:Pr):Prop where
 pl:WkP r.pl
 first:Under r.pl.names.length r.first
 last:Under r.pl.names.length r.last
def der (S:Stt)(w:Row):Stt:=w.foldl (fun S a=>stepS a S) S
theorem der_append (S:Stt)(u v:Row):der S (u++v)=der (der S u) v:=by simp [der]
theorem der_snoc (S:Stt)(u:Row)(y:ByteArray):der S (u++[y])=stepS y (der S u):=by simp [der]
theorem der_sub {e:E}{S:Stt}(h:∀r,S r→r∈pdAll e):∀(w:Row),∀r,der S w r→r∈pdAll e:=by
 intro w;induction w generalizing S with
 |nil=>exact h
 |cons a w ih=>
  refine ih (S:=stepS a S) fun x hx=>?_;obtain ⟨r,hr,hx⟩:=hx;obtain ⟨h1,h2⟩:=pdAll_step a r (h r hr) x hx;simp only [pdAll,List.mem_cons,List.mem_flatMap];exact .inr ⟨a,h2,h1⟩
theorem one_sub (e:E):∀r,one e r→r∈pdAll e:=fun r h=>by rw [show r = [e] from h];simp [pdAll]
theorem der_last (e:E)(u:Row)(y:ByteArray):∀r,der (one e) (u++[y]) r→r∈e.pdy y:=by
 intro x hx;rw [der_snoc] at hx;obtain ⟨r,hr,hx⟩:=hx;exact (pdAll_step y r (der_sub (one_sub e) u r hr) x hx).1
theorem SL_step' {e:E}(hok:e.ok=true){S:Stt}(h:∀r,S r→r∈pdAll e)(a:ByteArray)(w:Row):SL S (a::w)↔SL (stepS a S) w:=by
 constructor
 ·rintro ⟨r,hr,hw⟩
  obtain ⟨x,hx,hxw⟩:=(stepR_L a r (fun k hk=>((pdAll_ok hok r (h r hr)).2 k hk).1) w).1 hw;exact ⟨x,⟨r,hr,hx⟩,hxw⟩
 ·rintro ⟨x,⟨r,hr,hx⟩,hxw⟩
  exact ⟨r,hr,(stepR_L a r (fun k hk=>((pdAll_ok hok r (h r hr)).2 k hk).1) w).2 ⟨x,hx,hxw⟩⟩
theorem der_L {e:E}(hok:e.ok=true)(w v:Row):SL (der (one e) w) v↔e.L (w++v):=by
 have key:∀(w:Row) (S:Stt),(∀r,S r→r∈pdAll e)→(SL (der S w) v↔SL S (w++v)):=by
  intro w;induction w with
  |nil=>intro S _;exact Iff.rfl
  |cons a w ih=>
   intro S hS;have h1:=der_sub hS [a];rw [show der S (a::w)=der (stepS a S) w from rfl,ih (stepS a S) h1,List.cons_append];exact (SL_step' hok hS a (w++v)).symm
 rw [key w _ (one_sub e)];unfold SL one;constructor
 ·rintro ⟨r,rfl,h⟩;exact (restL_one e _).1 h
 ·exact fun h=>⟨[e],rfl,(restL_one e _).2 h⟩
def subs {α:Type}(U:List α):List (α→Prop):=(bools U.length).map fun bs=>fun r=>∃i:Nat,U[i]?=some r∧bs[i]?=some true
theorem subs_len {α:Type}(U:List α):(subs U).length=2 ^ U.length:=by rw [subs,List.length_map,bools_len]
open Classical in
theorem subs_mem {α:Type}(U:List α)(S:α→Prop)(h:∀r,S r→r∈U):S∈subs U:=by
 refine List.mem_map.2 ⟨U.map fun r=>decide (S r),by have:=bools_mem (U.map fun r=>decide (S r));rwa [List.length_map] at this,?_⟩;funext r;apply propext;constructor
 ·rintro ⟨i,h1,h2⟩
  rw [List.getElem?_map,h1] at h2;simpa using h2
 ·intro hr;obtain ⟨i,hi⟩:=List.getElem?_of_mem (h r hr);exact ⟨i,hi,by rw [List.getElem?_map,hi];simp [hr]⟩
def subs2 (U V:List Rest):List (Stt × Stt):=(subs U).flatMap fun S=>(subs V).map fun T=>(S,T)
theorem flat_const {α β:Type}(f:α→List β)(n:Nat):∀l:List α,(∀x∈l,(f x).length≤n)→(l.flatMap f).length≤l.length*n
 |[],_=>by simp
 |x::l,h=>by
  have h1:=h x (by simp);have h2:=flat_const f n l fun y hy=>h y (by simp [hy]);simp only [List.flatMap_cons,List.length_append,List.length_cons,Nat.succ_mul];omega
theorem subs2_len (U V:List Rest):(subs2 U V).length≤2 ^ (U.length+V.length):=by
 have:=flat_const (fun S=>(subs V).map fun T=>(S,T)) (2 ^ V.length) (subs U) fun S _=>by rw [List.length_map,subs_len];exact Nat.le_refl _
 rw [subs_len,←Nat.pow_add] at this;exact this
theorem subs2_mem (U V:List Rest){S T:Stt}(h:∀r,S r→r∈U)(h':∀r,T r→r∈V):(S,T)∈subs2 U V:=
 List.mem_flatMap.2 ⟨S,subs_mem U S h,List.mem_map.2 ⟨T,subs_mem V T h',rfl⟩⟩
section
variable (e f:E)
def cc (y:ByteArray):Nat:=(e.pdy y).length+(f.pdy y).length
open Classical in
noncomputable def allN:List ByteArray:=e.names++f.names.filter fun y=>!decide (y∈e.names)
open Classical in
theorem allN_nodup:(allN e f).Nodup:=List.nodup_append.2 ⟨names_nodup e,(names_nodup f).filter _,fun a ha b hb=>by
 have:=(List.mem_filter.1 hb).2;simp at this;exact fun h=>this (h ▸ ha)⟩
noncomputable def zs:List ByteArray:=(allN e f).filter fun y=>!decide (cc e f y=0)
theorem leaves23 {e:E}(hc:e.cnt≤24):e.leaves≤23:=by
 have h2:=leaves_le e;by_cases h:e.op=110
 ·have:e.leaves=1:=by rw [leaves_eq,if_pos h]
  omega
 ·rcases h2.2 with h2|h2<;>omega
variable {e f} (he:e.cnt≤24) (hf:f.cnt≤24)
include he hf
theorem cc_sum (ys:List ByteArray)(h:ys.Nodup):(ys.map (cc e f)).sum≤46:=by
 have h1:=pdy_len ys h e;have h2:=pdy_len ys h f;have h3:=leaves23 he;have h4:=leaves23 hf;have:(ys.map (cc e f)).sum=(ys.map fun y=>(e.pdy y).length).sum+(ys.map fun y=>(f.pdy y).length).sum:=sum_add _ _ ys;omega
theorem zs_len:(zs e f).length≤46:=by
 have h:=cc_sum he hf (zs e f) ((allN_nodup e f).filter _);have:∀l:List ByteArray,(∀y∈l,cc e f y≠0)→l.length≤(l.map (cc e f)).sum:=by
  intro l;induction l with
  |nil=>intro _;simp
  |cons y l ih=>
   intro h;have h1:=h y (by simp);have h2:=ih fun z hz=>h z (by simp [hz]);simp;omega
 have:=this (zs e f) fun y hy=>by simpa using (List.mem_filter.1 hy).2
 omega
end
open Classical in
theorem zs_mem {e f:E}{y:ByteArray}(h:cc e f y≠0):y∈zs e f:=by
 refine List.mem_filter.2 ⟨?_,by simpa using h⟩;unfold cc at h;by_cases h1:(e.pdy y).length=0
 ·have h2:(f.pdy y).length≠0:=by omega
  obtain ⟨r,hr⟩:=List.exists_mem_of_length_pos (by omega:0<(f.pdy y).length);have:=(names_mem f y).2 (pdy_occ y f r hr);by_cases h3:y∈e.names
  ·exact List.mem_append.2 (.inl h3)
  ·exact List.mem_append.2 (.inr (List.mem_filter.2 ⟨this,by simp [h3]⟩))
 ·obtain ⟨r,hr⟩:=List.exists_mem_of_length_pos (by omega:0<(e.pdy y).length);exact List.mem_append.2 (.inl ((names_mem e y).2 (pdy_occ y e r hr)))
def pairOf (e f:E)(w:Row):Stt × Stt:=(der (one e) w,der (one f) w)
def void:Stt:=fun _=>False
theorem void_of {S:Stt}(h:∀r,S r→r∈([]:List Rest)):S=void:=by
 funext r;apply propext;exact ⟨fun q=>(by cases h r q),fun q=>q.elim⟩
theorem pair_last (e f:E)(u:Row)(y:ByteArray):pairOf e f (u++[y])=(void,void)∨(y∈zs e f∧pairOf e f (u++[y])∈subs2 (e.pdy y) (f.pdy y)):=by
 have h1:=der_last e u y;have h2:=der_last f u y;by_cases h:cc e f y=0
 ·left;unfold cc at h;have e1:e.pdy y = []:=List.eq_nil_of_length_eq_zero (by omega);have e2:f.pdy y = []:=List.eq_nil_of_length_eq_zero (by omega);rw [e1] at h1;rw [e2] at h2;unfold pairOf;rw [void_of h1,void_of h2]
 ·exact .inr ⟨zs_mem h,subs2_mem _ _ h1 h2⟩
theorem rep_split (x:ByteArray):∀(n:Nat) (w:Row),w.length=n→∃u k,w=u++List.replicate k x∧(u = []∨∃v y,u=v++[y]∧y≠x):=by
 intro n;induction n with
 |zero=>exact fun w hw=>⟨[],0,by rw [List.eq_nil_of_length_eq_zero hw];rfl,.inl rfl⟩
 |succ n ih=>
  intro w hw;obtain ⟨v,y,rfl⟩:∃v y,w=v++[y]:=⟨w.dropLast,w.getLast (by intro e;rw [e] at hw;cases hw),(List.dropLast_concat_getLast _).symm⟩;by_cases hy:y=x
  ·subst hy;obtain ⟨u,k,e1,e2⟩:=ih v (by simpa using hw);exact ⟨u,k+1,by rw [e1,List.append_assoc,List.replicate_succ'],e2⟩
  ·exact ⟨v++[y],0,by simp,.inr ⟨v,y,rfl,hy⟩⟩
def OB:Nat:=29388610
theorem pow46:(3:Nat) ^ 46<21000000 ^ 3:=by decide
theorem orbit_short {e f:E}(he:e.cnt≤24)(hf:f.cnt≤24)(x:ByteArray)(S T:Stt)(hS:∀r,S r→r∈pdAll e)(hT:∀r,T r→r∈pdAll f)(k:Nat):∃k',k'<OB∧der S (List.replicate k x)=der S (List.replicate k' x)∧der T (List.replicate k x)=der T (List.replicate k' x):=by
 have one':∀(e:E) (S:Stt),(∀r,S r→r∈pdAll e)→e.cnt≤24→∃i P,i≤8388609∧0<P∧P ^ 3≤3 ^ (e.pdy x).length∧∀k,i≤k→der S (List.replicate (k+P) x)=der S (List.replicate k x):=by
  intro e S hS he;obtain ⟨i,P,h1,h2,h3,h4⟩:=comes_round (fun p q=>q∈stepR x p) (fun k=>der S (List.replicate k x)) (fun k r=>by
   rw [List.replicate_succ',der_snoc];exact Iff.rfl) (e.pdy x) (fun k r hr=>by
   rw [List.replicate_succ',der_snoc] at hr;obtain ⟨q,hq,hr⟩:=hr;exact (pdAll_step x q (der_sub hS _ q hq) r hr).1)
  have hl:(e.pdy x).length≤23:=by
   have:=pdy_len [x] (by simp) e;have:=leaves23 he;simp at *;omega
  have:2 ^ (e.pdy x).length≤2 ^ 23:=Nat.pow_le_pow_right (by decide) hl
  exact ⟨i, P, by have : (2 : Nat) ^ 23 = 8388608 := by decide
                  omega,h2,h3,h4⟩
 obtain ⟨i,P,a1,a2,a3,a4⟩:=one' e S hS he;obtain ⟨j,Q,b1,b2,b3,b4⟩:=one' f T hT hf;have hPQ:P*Q<21000000:=by
  refine Classical.byContradiction fun hge=>?_;have h1:21000000 ^ 3≤(P*Q) ^ 3:=Nat.pow_le_pow_left (by omega) 3;rw [Nat.mul_pow] at h1;have h2:P ^ 3*Q ^ 3≤3 ^ (e.pdy x).length*3 ^ (f.pdy x).length:=Nat.mul_le_mul a3 b3;rw [←Nat.pow_add] at h2;have h3:=cc_sum he hf [x] (by simp);have h4:3 ^ ((e.pdy x).length+(f.pdy x).length)≤3 ^ 46:=Nat.pow_le_pow_right (by decide) (by simpa [cc] using h3);have:=pow46;omega
 have many:∀(S:Stt) (i P:Nat),(∀k,i≤k→der S (List.replicate (k+P) x)=der S (List.replicate k x))→∀n k,i≤k→der S (List.replicate (k+P*n) x)=der S (List.replicate k x):=by
  intro S i P h n;induction n with
  |zero=>intro k _;rfl
  |succ n ih=>
   intro k hk;rw [show k+P*(n+1)=(k+P*n)+P by rw [Nat.mul_succ];omega,h _ (by omega),ih k hk]
 have h0:0<P*Q:=Nat.mul_pos a2 b2;have key:∀n k,k≤n→∃k',k'<OB∧der S (List.replicate k x)=der S (List.replicate k' x)∧der T (List.replicate k x)=der T (List.replicate k' x):=by
  intro n;induction n with
  |zero=>exact fun k hk=>⟨k,by unfold OB;omega,rfl,rfl⟩
  |succ n ih=>
   intro k hk;by_cases hlt:k<OB
   ·exact ⟨k,hlt,rfl,rfl⟩
   ·have hO:OB=29388610:=rfl;obtain ⟨m,rfl⟩:∃m,k=m+P*Q:=⟨k-P*Q,by omega⟩;obtain ⟨k',h1,h2,h3⟩:=ih m (by omega);refine ⟨k',h1,?_,?_⟩
    ·rw [many S i P a4 Q m (by omega),h2]
    ·rw [Nat.mul_comm P Q,many T j Q b4 P m (by omega),h3]
 exact key k k (Nat.le_refl _)
def PB:Nat:=3200000000000
theorem pairs_len {e f:E}(he:e.cnt≤24)(hf:f.cnt≤24)(ps:List (Stt × Stt))(hn:ps.Nodup)(hp:∀p∈ps,∃w,p=pairOf e f w):ps.length≤PB:=by
 have hP:PB=3200000000000:=rfl;by_cases hx:∃x∈zs e f,37≤cc e f x
 ·obtain ⟨x,hxz,hx37⟩:=hx
  let ys:=(zs e f).filter fun y=>!decide (y=x)
  have hys:∀y∈ys,y∈zs e f∧y≠x:=fun y hy=>by
   have:=List.mem_filter.1 hy;exact ⟨this.1,by simpa using this.2⟩
  have hsum:(ys.map (cc e f)).sum≤9:=by
   have:=cc_sum he hf (x::ys) (List.nodup_cons.2 ⟨fun h=>(hys x h).2 rfl,(((allN_nodup e f).filter _).filter _)⟩);simp at this;omega
  have hpos:∀l:List ByteArray,(∀y∈l,cc e f y≠0)→l.length≤(l.map (cc e f)).sum∧∀y∈l,cc e f y≤(l.map (cc e f)).sum:=by
   intro l;induction l with
   |nil=>intro _;simp
   |cons y l ih=>
    intro h;have h1:=h y (by simp);have h2:=ih fun z hz=>h z (by simp [hz]);simp only [List.length_cons,List.map_cons,List.sum_cons];refine ⟨by omega,fun z hz=>?_⟩;rcases List.mem_cons.1 hz with rfl|hz
    ·omega
    ·have:=h2.2 z hz;omega
  obtain ⟨hl,hc⟩:=hpos ys fun y hy=>by simpa using (List.mem_filter.1 (hys y hy).1).2
  have hflat:(ys.flatMap fun y=>subs2 (e.pdy y) (f.pdy y)).length≤ys.length*512:=flat_const _ 512 ys fun y hy=>by
   have h1:=subs2_len (e.pdy y) (f.pdy y);have h2:2 ^ ((e.pdy y).length+(f.pdy y).length)≤2 ^ 9:=Nat.pow_le_pow_right (by decide) (by
    have:=hc y hy;have e1:cc e f y=(e.pdy y).length+(f.pdy y).length:=rfl;omega)
   have h3:(2:Nat) ^ 9=512:=(by decide);omega
  let st:List (Stt × Stt):=(one e,one f)::(void,void)::ys.flatMap fun y=>subs2 (e.pdy y) (f.pdy y)
  have hst:st.length≤4610:=by
   simp only [st,List.length_cons];omega
  have hall:=nodup_sub_len ps (st.flatMap fun s=>(List.range OB).map fun k=>(der s.1 (List.replicate k x),der s.2 (List.replicate k x))) hn fun p hpm=>by
   obtain ⟨w,rfl⟩:=hp p hpm;obtain ⟨u,k,rfl,hu⟩:=rep_split x w.length w rfl;obtain ⟨k',h1,h2,h3⟩:=orbit_short he hf x (der (one e) u) (der (one f) u) (der_sub (one_sub e) u) (der_sub (one_sub f) u) k;refine List.mem_flatMap.2 ⟨pairOf e f u,?_,List.mem_map.2 ⟨k',List.mem_range.2 h1,?_⟩⟩
   ·rcases hu with rfl|⟨v,y,rfl,hy⟩
    ·exact List.mem_cons.2 (.inl rfl)
    ·rcases pair_last e f v y with h|⟨h,h'⟩
     ·rw [h];simp [st]
     ·simp only [st,List.mem_cons,List.mem_flatMap];exact .inr (.inr ⟨y,List.mem_filter.2 ⟨h,by simp [hy]⟩,h'⟩)
   ·unfold pairOf;rw [der_append,der_append,h2,h3]
  have h2:=flat_const (fun s:Stt × Stt=>(List.range OB).map fun k=>(der s.1 (List.replicate k x),der s.2 (List.replicate k x))) OB st fun s _=>by simp
  have h3:st.length*OB≤4610*OB:=Nat.mul_le_mul_right _ hst;have h4:4610*OB≤PB:=by decide
  omega
 ·have hall:=nodup_sub_len ps ((one e,one f)::(void,void)::(zs e f).flatMap fun y=>subs2 (e.pdy y) (f.pdy y)) hn fun p hpm=>by
   obtain ⟨w,rfl⟩:=hp p hpm;by_cases hw:w = []
   ·subst hw;exact List.mem_cons.2 (.inl rfl)
   ·obtain ⟨v,y,rfl⟩:∃v y,w=v++[y]:=⟨w.dropLast,w.getLast hw,(List.dropLast_concat_getLast _).symm⟩;rcases pair_last e f v y with h|⟨h,h'⟩
    ·rw [h];simp
    ·simp only [List.mem_cons,List.mem_flatMap];exact .inr (.inr ⟨y,h,h'⟩)
  have hflat:((zs e f).flatMap fun y=>subs2 (e.pdy y) (f.pdy y)).length≤(zs e f).length*68719476736:=flat_const _ _ _ fun y hy=>by
   have h1:=subs2_len (e.pdy y) (f.pdy y);have h2:2 ^ ((e.pdy y).length+(f.pdy y).length)≤2 ^ 36:=Nat.pow_le_pow_right (by decide) (by
    refine Classical.byContradiction fun hge=>hx ⟨y,hy,?_⟩;unfold cc;omega)
   have h3:(2:Nat) ^ 36=68719476736:=(by decide);omega
  have hz:=zs_len he hf;have h3:(zs e f).length*68719476736≤46*68719476736:=Nat.mul_le_mul_right _ hz;simp only [List.length_cons] at hall;omega
theorem ways_len {a b:Au}{bad:Int→Int→Bool}{names:List ByteArray}{i:Nat}{done:List ByteArray}{ways:List Way}(h:Ways a b bad names i done ways){La Lb:Nat→Row→Prop}(ha:Least a La)(hb:Least b Lb){e f:E}(he:e.cnt≤24)(hf:f.cnt≤24)(hoe:e.ok=true)(hof:f.ok=true)
 (h1:∀w,La 0 w↔e.L w) (h2:∀w,Lb 0 w↔f.L w):ways.length≤PB:=by
 have key:∀ {a:Au} {L:Nat→Row→Prop} {e:E},Least a L→e.ok=true→(∀w,L 0 w↔e.L w)→∀w w',der (one e) w=der (one e) w'→a.run 0 w=a.run 0 w':=by
  intro a L e ha hoe h1 w w' hd;obtain ⟨p1,p2⟩:=sem_run ha.sem.toSem0 w (st0 ha.sem.toSem0);obtain ⟨q1,q2⟩:=sem_run ha.sem.toSem0 w' (st0 ha.sem.toSem0);have h0:∀v,LI L 0 v↔e.L v:=fun v=>by unfold LI;simp [h1]
  refine least_eq ha p1 q1 fun v=>?_;rw [←p2 v,←q2 v,h0,h0,←der_L hoe w v,←der_L hoe w' v,hd]
 have hn:=nodup_map (fun q:Way=>pairOf e f q.2) ways (by
  have:=h.nodup;exact (List.pairwise_map.1 this).imp fun hne e=>hne (by rw [e])) fun q hq q' hq' heq=>by
  have e1:=key ha hoe h1 q.2 q'.2 (congrArg Prod.fst heq);have e2:=key hb hof h2 q.2 q'.2 (congrArg Prod.snd heq);have e3:q.1=q'.1:=by rw [(h.at' q hq).1,(h.at' q' hq').1,pr,pr,e1,e2]
  obtain ⟨k,hk⟩:=List.getElem?_of_mem hq;obtain ⟨k',hk'⟩:=List.getElem?_of_mem hq';have g1:(ways.map (·.1))[k]?=some q.1:=by rw [List.getElem?_map,hk];rfl
  have g2:(ways.map (·.1))[k']?=some q.1:=by rw [List.getElem?_map,hk',e3];rfl
  have hkk:k=k':=by
   obtain ⟨x1,x2⟩:=List.getElem?_eq_some_iff.1 g1;obtain ⟨y1,y2⟩:=List.getElem?_eq_some_iff.1 g2;rcases Nat.lt_trichotomy k k' with g|g|g
   ·exact absurd (x2.trans y2.symm) (List.pairwise_iff_getElem.1 h.nodup _ _ x1 y1 g)
   ·exact g
   ·exact absurd (y2.trans x2.symm) (List.pairwise_iff_getElem.1 h.nodup _ _ y1 x1 g)
  subst hkk;rw [hk] at hk';exact Option.some.inj hk'
 have:=pairs_len he hf _ hn fun p hp=>by
  obtain ⟨q,_,rfl⟩:=List.mem_map.1 hp;exact ⟨q.2,rfl⟩
 rwa [List.length_map] at this
section
variable {σ κ:Type} [DecidableEq κ] (key:σ→κ)
theorem rowK_append:∀(l1 l2:List (Option σ)) (all:List σ),rowK key all (l1++l2)=((rowK key (rowK key all l1).1 l2).1,(rowK key all l1).2++(rowK key (rowK key all l1).1 l2).2)
 |[],l2,all=>by simp [rowK]
 |none::l1,l2,all=>by simp [rowK,rowK_append l1 l2 all]
 |some s::l1,l2,all=>by
  simp only [List.cons_append,rowK];split
  ·simp [rowK_append l1 l2 all]
  ·simp [rowK_append l1 l2 (all++[s])]
theorem rowK_some (all:List σ)(s:σ):rowK key all [some s]=if key s∈all.map key then (all,[(ixK (key s) (all.map key):Int)]) else (all++[s],[(all.length:Int)]):=by
 simp only [rowK]
theorem rowK_none (all:List σ):rowK key all [none]=(all,[-1]):=rfl
theorem rowK_mono (l1 l2:List (Option σ))(all:List σ)(h:(all.map key).Nodup):(rowK key all l1).1.length≤(rowK key all (l1++l2)).1.length:=by
 obtain ⟨m,h1,h2,_⟩:=rowK_spec key l1 all h;obtain ⟨m',g1,_⟩:=rowK_spec key l2 (rowK key all l1).1 h2;rw [rowK_append,g1,List.length_append];omega
end
noncomputable def E.dfa (e:E):Au:=leastA (whole e) (wholeL e)
noncomputable def E.dfaL (e:E):Nat→Row→Prop:=numL (whole e) (cstar (whole e).next.length (wholeL e)) (wholeL e)
theorem dfa_least {e:E}(hok:e.ok=true)(hc:e.cnt≤24):Least e.dfa e.dfaL∧∀w,e.dfaL 0 w↔e.L w:=by
 obtain ⟨h1,h2⟩:=whole_sem e hok hc;obtain ⟨h3,h4⟩:=numbered_least h1 (names_nodup e) (cstar_exact (whole e) (wholeL e));exact ⟨h3,fun w=>(h4 w).trans (h2 w)⟩
def badP (a b:Au)(both:Bool)(s t:Int):Bool:=(a.acc s&&!b.acc t) || (both&&(b.acc t&&!a.acc s))
def Dif (e f:E)(both:Bool)(w:Row):Prop:=(e.L w∧¬f.L w)∨(both=true∧f.L w∧¬e.L w)
theorem badP_iff {a b:Au}{La Lb:Nat→Row→Prop}(ha:Least a La)(hb:Least b Lb){e f:E}(h1:∀w,La 0 w↔e.L w)(h2:∀w,Lb 0 w↔f.L w)(both:Bool)(w:Row):badP a b both (a.run 0 w) (b.run 0 w)=true↔Dif e f both w:=by
 have e1:=(sem_has ha.sem.toSem0 w).trans (h1 w);have e2:=(sem_has hb.sem.toSem0 w).trans (h2 w);unfold badP Dif;rw [←e1,←e2];cases a.acc (a.run 0 w)<;>cases b.acc (b.run 0 w)<;>cases both<;>simp
theorem badP_dead (a b:Au)(both:Bool):badP a b both (-1) (-1)=false:=by simp [badP,Au.acc]
open Classical in
noncomputable def apartR (e f:E)(both:Bool):Row × Bool:=(theRow (Dif e f both),decide (∃w,Dif e f both w))
theorem apart_found {a b:Au}{La Lb:Nat→Row→Prop}(ha:Least a La)(hb:Least b Lb){e f:E}(h1:∀w,La 0 w↔e.L w)(h2:∀w,Lb 0 w↔f.L w){both:Bool}{names:List ByteArray}(hnm:∀x,x∈names↔x∈a.names∨x∈b.names){i:Nat}{ways:List Way}(h:Ways a b (badP a b both) names i [] ways)
 {p:Way} (hp:ways[i]?=some p) (hbad:badP a b both p.1.1 p.1.2=true):apartR e f both=(p.2,true):=by
 have hat:=(h.at' p (List.mem_of_getElem? hp)).1;rw [hat] at hbad;have hD:Dif e f both p.2:=(badP_iff ha hb h1 h2 both p.2).1 hbad;have hl:LeastRow (Dif e f both) p.2:=⟨hD,fun v hv q=>by
  have:=ways_found h ha.sem.row hb.sem.row hnm (badP_dead a b both) hp v hv;rw [show badP a b both (pr a b v).1 (pr a b v).2=true from (badP_iff ha hb h1 h2 both v).2 q] at this;cases this⟩
 have hx:∃w,Dif e f both w:=⟨_,hD⟩;unfold apartR;rw [theRow_eq hl];simp [hx]
theorem apart_none {a b:Au}{La Lb:Nat→Row→Prop}(ha:Least a La)(hb:Least b Lb){e f:E}(h1:∀w,La 0 w↔e.L w)(h2:∀w,Lb 0 w↔f.L w){both:Bool}{names:List ByteArray}(hnm:∀x,x∈names↔x∈a.names∨x∈b.names){i:Nat}{ways:List Way}(h:Ways a b (badP a b both) names i [] ways)
 (hi:ways.length≤i):apartR e f both=([],false):=by
 have hno:∀w,¬Dif e f both w:=fun w q=>by
  have:=ways_none h ha.sem.row hb.sem.row hnm (badP_dead a b both) hi w;rw [show badP a b both (pr a b w).1 (pr a b w).2=true from (badP_iff ha hb h1 h2 both w).2 q] at this;cases this
 have hx:¬∃w,Dif e f both w:=fun ⟨w,hw⟩=>hno w hw;unfold apartR;rw [theRow_none hno];simp [hx]
open Classical in
theorem apartR_true {e f:E}{both:Bool}(h:(apartR e f both).2=true):∃w,Dif e f both w:=of_decide_eq_true h
open Classical in
theorem apartR_false {e f:E}{both:Bool}(h:(apartR e f both).2=false)(w:Row):¬Dif e f both w:=fun q=>of_decide_eq_false h ⟨w,q⟩
structure Tot (d:Au):Prop where
 fin:d.final.length=d.next.length
 row:∀r∈d.next,r.length=d.names.length∧∀t∈r,∃n:Nat,t=n∧n<d.next.length
theorem ways_row {a b:Au}{bad:Int→Int→Bool}{names:List ByteArray}{i:Nat}{done:List ByteArray}{ways:List Way}(h:Ways a b bad names i done ways):∀(k:Nat) (q:Way),ways[k]?=some q→q.2.length≤k:=by
 intro k;induction k using Nat.strongRecOn with
 |_ k ih=>
  intro q hq;rcases h.last q (List.mem_of_getElem? hq) with e|⟨k',p,x,hp,e,_⟩
  ·rw [e];simp
  ·have hlt:k'<k:=by
    rcases Nat.lt_trichotomy k' k with g|g|g
    ·exact g
    ·subst g;rw [hp] at hq;cases hq;have:=congrArg List.length e;simp at this
    ·exact absurd (slt_trans (h.sorted k k' q p g hq hp) (by rw [e];exact slt_app _ _)) (slt_irrefl _)
   have:=ih k' hlt p hp;rw [e,List.length_append];simp;omega
section
variable {σ κ:Type} [DecidableEq κ] (key:σ→κ)
def rowQ (A:List σ)(l:List (Option σ))(k:Nat):List σ × List Int:=rowK key A (l.take k)
theorem rowQ_zero (A:List σ)(l:List (Option σ)):rowQ key A l 0=(A,[]):=by simp [rowQ,rowK]
theorem rowQ_all (A:List σ)(l:List (Option σ)):rowQ key A l l.length=rowK key A l:=by
 unfold rowQ;rw [List.take_of_length_le (Nat.le_refl _)]
theorem rowQ_none {A:List σ}{l:List (Option σ)}{k:Nat}(h:l[k]?=some none):rowQ key A l (k+1)=((rowQ key A l k).1,(rowQ key A l k).2++[-1]):=by
 unfold rowQ;rw [List.take_add_one,h,Option.toList_some,rowK_append,rowK_none]
theorem rowQ_some {A:List σ}{l:List (Option σ)}{k:Nat}{s:σ}(h:l[k]?=some (some s)):rowQ key A l (k+1) =
 if key s∈(rowQ key A l k).1.map key then ((rowQ key A l k).1,(rowQ key A l k).2++[(ixK (key s) ((rowQ key A l k).1.map key):Int)]) else ((rowQ key A l k).1++[s],(rowQ key A l k).2++[((rowQ key A l k).1.length:Int)]):=by
 unfold rowQ;rw [List.take_add_one,h,Option.toList_some,rowK_append,rowK_some];split<;>rfl
theorem rowQ_facts {A:List σ}{l:List (Option σ)}(hn:(A.map key).Nodup)(k:Nat)(hk:k≤l.length) :
 ((rowQ key A l k).1.map key).Nodup∧(rowQ key A l k).2.length=k∧(rowQ key A l k).1.length≤(rowK key A l).1.length∧∃m,(rowQ key A l k).1=A++m∧∀s∈m,some s∈l:=by
 obtain ⟨m,h1,h2,h3,h4,_⟩:=rowK_spec key (l.take k) A hn;refine ⟨h2,by unfold rowQ;rw [h4,List.length_take];omega,?_,m,h1,fun s hs=>List.mem_of_mem_take (h3 s hs)⟩;have:=rowK_mono key (l.take k) (l.drop k) A hn;rw [List.take_append_drop] at this;exact this
end
structure Lim (d:Au):Prop where
 pos:0<d.next.length
 fin:d.final.length=d.next.length
 row:∀r∈d.next,r.length=d.names.length∧∀t∈r,t = -1∨∃n:Nat,t=n∧n<d.next.length
theorem Tot.lim {d:Au}(h:Tot d)(h0:0<d.next.length):Lim d:=⟨h0,h.fin,fun r hr=>⟨(h.row r hr).1,fun t ht=>.inr ((h.row r hr).2 t ht)⟩⟩
theorem num_of {d:Au}(h:Lim d)(C:List Int)(i:Nat):∀s∈(numM d C i).1,s<d.next.length:=by
 refine met_all _ _ _ (fun s=>s<d.next.length) h.pos (fun s hs t ht=>?_) i;obtain ⟨x,hx,e⟩:=List.mem_map.1 ht;split at e
 ·cases e
 ·cases e;have e1:d.next[s]?=some d.next[s]:=by simp
  rw [e1,Option.getD_some] at hx;rcases (h.row _ (List.getElem_mem hs)).2 x hx with q|⟨n,rfl,q⟩
  ·omega
  ·simpa using q
theorem num_len {d:Au}(h:Lim d)(C:List Int)(i:Nat):(numM d C i).1.length≤d.next.length:=by
 have hM:=met_is (fun s=>C.getD s 0) (nextN d) 0 i;have h1:(numM d C i).1.Nodup:=by
  have:=hM.nodup;exact (List.pairwise_map.1 this).imp fun hne e=>hne (by rw [e])
 have:=nodup_sub_len _ (List.range d.next.length) h1 fun s hs=>List.mem_range.2 (num_of h C i s hs);simpa using this
theorem num_nodup (d:Au)(C:List Int)(i:Nat):((numM d C i).1.map fun s=>C.getD s 0).Nodup:=(met_is (fun s=>C.getD s 0) (nextN d) 0 i).nodup
theorem num_rows (d:Au)(C:List Int)(i:Nat)(hi:i≤(numM d C i).1.length):(numM d C i).2.length=i:=by
 have h:Met (fun s=>C.getD s 0) (nextN d) 0 i (numM d C i).1 (numM d C i).2:=met_is _ _ _ _;rcases h.many with h|h<;>omega
theorem num_step (d:Au)(C:List Int)(i s:Nat)(h:(numM d C i).1[i]?=some s):numM d C (i+1)=((rowK (fun s=>C.getD s 0) (numM d C i).1 (nextN d s)).1,(numM d C i).2++[(rowK (fun s=>C.getD s 0) (numM d C i).1 (nextN d s)).2]):=by
 unfold numM at h ⊢;simp only [met,h]
theorem num_first (d:Au)(C:List Int):numM d C 0=([0],[]):=rfl
theorem num_end (d:Au)(C:List Int)(i W:Nat)(h:(numM d C i).1.length≤i)(hi:i≤W):numM d C W=numM d C i:=by
 have:=met_end (fun s=>C.getD s 0) (nextN d) 0 i h (W-i);rw [show i+(W-i)=W by omega] at this;exact this
theorem num_pre (d:Au)(C:List Int)(i:Nat):∃m,(numM d C (i+1)).1=(numM d C i).1++m:=by
 cases h:(numM d C i).1[i]? with
 |none=>
  refine ⟨[],?_⟩;rw [num_end d C i (i+1) (List.getElem?_eq_none_iff.1 h) (by omega)];simp
 |some s=>
  rw [num_step d C i s h];obtain ⟨m,h1,_⟩:=rowK_spec (fun s=>C.getD s 0) (nextN d s) (numM d C i).1 (num_nodup d C i);exact ⟨m,h1⟩
theorem nextN_get {d:Au}{s k:Nat}{t:Int}{r:List Int}(hr:d.next[s]?=some r)(ht:r[k]?=some t):(nextN d s)[k]?=some (if t<0 then none else some t.toNat):=by
 simp [nextN,hr,ht]
theorem nextN_len {d:Au}{s:Nat}{r:List Int}(hr:d.next[s]?=some r):(nextN d s).length=r.length:=by simp [nextN,hr]
end Go.Proofs.D
