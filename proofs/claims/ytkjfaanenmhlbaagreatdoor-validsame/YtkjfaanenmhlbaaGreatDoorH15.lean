/-
  TEXTS IN ORDER: slices.Sorted of what an iterator gives; the keys of a state.
-/
import Derived.Test.YtkjfaanenmhlbaaGreatDoorG12
import Derived.Test.YtkjfaanenmhlbaaGreatDoorG0
import Derived.Test.YtkjfaanenmhlbaaGreatDoorAbsMB
import Derived.Test.YtkjfaanenmhlbaaGreatDoorIter
import Derived.RangeFuncBox
import Derived.RangeFuncLeaves
import Derived.RangeFuncWrites
import Derived.Maps.AppendAt
import Derived.Sort.OwnSorted
import Derived.LoopNIn
import Derived.LoopIn
import Derived.TacticsInMore
import Derived.OwnWalkIn
import Derived.Test.YtkjfaanenmhlbaaGreatDoorShelfS
set_option linter.unusedVariables false
set_option linter.unusedSimpArgs false
namespace Go.Proofs.D
open Go Go.Abs Go.RowKit Go.Sort Go.Maps
def Enters (P:Program)(g:Nat):Prop:=∀args w,(callFunc g args).run P w = .ok (.enter g args) w
def GivesQ (l:List ByteArray)(w:World)(v:Value):Prop:=∃g lb,v = .func (.func g) #[] lb∧Enters Tryz.prog g∧SeqGives Fence.wide 2 Tryz.prog g lb encStr (fun ss=>ss.Perm (l.map (·.data.toList))) l.length w
set_option maxRecDepth 20000 in
theorem h48it (Gl:Granted)(l:List ByteArray)(hl:l.length≤100000000)(Q:World→(Nat→Prop)→Value→Prop)(hQ:∀(w:World) (F:Nat→Prop) (v:Value),(∀k,F k→k<w.heap.size)→Q w F v→GivesQ l w v) :
 Fun Tryz.prog Gl 172 [.opq Q] [] (.pv (namesV (sortB l))) []:=by
 refine ⟨⟨_,Tryz.func172,by kernel_rfl,rfl⟩,fun w0 F0 hd0 cargs hg hl' hlen hr=>?_⟩;have hd:=dead_hd hl';subst hd
 match cargs,hlen with
 |[c],_=>
  have h0:=hr 0 _ c rfl rfl;cases h0 with
  |opq _ _ h1 hK=>
   obtain ⟨g,lb,rfl,hent,hseq⟩:=hQ w0 F0 _ hl'.fin (hK w0 F0 (fun _ _=>rfl) (fun _ h=>h));have hs:=AnyZ.sorted_in Tryz.sorted48 Fence.wide 5 trivial trivial trivial trivial rfl (by omega) (Tryz.sorts48 _) (enters_of Tryz.func139 (by kernel_rfl) rfl) g lb trivial hent _ _ (by simp only [maxLen];omega) (by omega) w0 hseq;refine (callsIn_wide.1 hs).mono fun e w' ⟨v,ss,he,hperm,hrow,hnil,hbelow⟩=>?_;have hsort:=sort_perm hperm;rw [hsort] at hrow;have hlen:ss.length=(sortB l).length:=by
    rw [sortB_len];simpa using hperm.length_eq
   obtain ⟨r1,r2⟩:=hrow;have hblk:∀k,v.ownBlock=some k→w0.heap.size≤k∧k<w'.heap.size:=by
    intro k hk;rcases r2 with ⟨rfl,_⟩|⟨g,cap,cur,rfl,q3,q4,_⟩
    ·simp [Value.ownBlock] at hk
    ·simp [Value.ownBlock] at hk;subst hk;exact ⟨q3,(Array.getElem?_eq_some_iff.1 q4).1⟩
   have hrow':w'.ownsRow 0 9 1 v ((sortB l).map fun s=>[PV.val (.string s)]).length (((l.map (·.data.toList)).mergeSort fun x y=>decide (x≤y)).map encStr):=by
    rw [List.length_map,←hlen];exact ⟨r1,r2.imp id fun ⟨g,cap,cur,q2,q3,q4⟩=>⟨g,cap,cur,q2,Nat.zero_le _,q4⟩⟩
   refine ⟨v,fun k=>F0 k∨v.ownBlock=some k,fun _=>.dead,he,.pv _ _ (row_ro hrow' (fun i el hi=>?_) (fun i j el c u h1 h2 h3=>?_) (fun k hk=>.inr hk)),⟨fun k hk=>?_,fun r s k _ h=>h.elim,fun r k h=>h.elim,fun r=>rfl⟩,
    ⟨fun r k h=>h.elim,fun k hk=>?_,fun k hk=>.inl hk,fun i=>.inl rfl,hbelow.os,hbelow.tape,hbelow.output,hbelow.size,fun k hk _=>hbelow.block k hk⟩⟩
   ·rw [List.getElem?_map] at hi;cases hx:(sortB l)[i]? with
    |none=>rw [hx] at hi;cases hi
    |some x=>rw [hx] at hi;cases hi;rfl
   ·rw [List.getElem?_map] at h1;cases hx:(sortB l)[i]? with
    |none=>rw [hx] at h1;cases h1
    |some x=>
     rw [hx] at h1;cases h1
     match j,h2 with
     |0,h2=>
      simp at h2;subst h2;simp only [sortB,List.getElem?_map] at hx;rw [List.getElem?_map] at h3;simp only [Nat.mul_one,Nat.add_zero] at h3;cases hy:((l.map (·.data.toList)).mergeSort fun x y=>decide (x≤y))[i]? with
      |none=>rw [hy] at hx;cases hx
      |some y=>
       rw [hy] at hx h3;cases hx;cases h3;exact .val _ rfl
   ·rcases hk with hk|hk
    ·exact Nat.lt_of_lt_of_le (hl'.fin k hk) hbelow.size
    ·exact (hblk k hk).2
   ·rcases hk with hk|hk
    ·exact .inl hk
    ·exact .inr (.inl (hblk k hk).1)
abbrev rP (r:Rest):PV:=.ro 3 (r.map E.pv)
abbrev rV (r:Rest):AV:=.pv (rP r)
abbrev entsOf (l:List Rest):Ents:=l.map fun r=>(.string (rtext r),rV r)
def stQ (S:Stt):World→(Nat→Prop)→Obj→Prop:=fun w F o=>∃l:List Rest,Lists S l∧mapG Tryz.prog 9 (entsOf l) w F o
abbrev stV (S:Stt):PV:=.opq (mapAt (stQ S))
def KSt (l:List Rest)(w:World)(F:Nat→Prop)(v:Value):Prop:=
 ∃kb b o,v = .func (.func 288) #[] #[.pointer (some ⟨kb,0,none⟩)]∧F kb∧w.heap[kb]?=some (.cells #[.map (some b)] 309 (0,0))∧F b∧w.heap[b]?=some o∧mapG Tryz.prog 9 (entsOf l) w F o
theorem KSt.mono {l:List Rest}{w w':World}{F F':Nat→Prop}{v:Value}(h:KSt l w F v)(h1:∀k,F k→w'.heap[k]?=w.heap[k]?)(h2:∀k,F k→F' k):KSt l w' F' v:=by
 obtain ⟨kb,b,o,q1,q2,q3,q4,q5,q6⟩:=h;exact ⟨kb,b,o,q1,h2 _ q2,(h1 _ q2).trans q3,h2 _ q4,(h1 _ q4).trans q5,mapG_mono q6 h1 h2⟩
open Go.Shelf
abbrev encB (s:ByteArray):Value:=.string s
set_option maxRecDepth 100000 in
set_option maxHeartbeats 2000000 in
theorem vals_in (F:Fence)(n:Nat)(h7:F.fn 236)(hro:F.round=none)(hn:1≤n)(l Bs n₀ b off cap:Nat)(zs:List ByteArray)(hreach:zs.length*16≤140737488351232)(hb:b<n₀)(J Jx:List ByteArray→World→Prop)
 (hY:∀pre x W,J pre W→pre.length<zs.length→YieldAt F (n-1) Tryz.prog l #[encB x] W fun e W'=>
   (e = .returned (.bool true)∧J (pre++[x]) W'∧Below n₀ W W')∨(e = .returned (.bool false)∧Jx (pre++[x]) W'))
 (W:World) (hBs:W.cell? ⟨Bs,0,none⟩=some (.slice (some ⟨b,off,none⟩) zs.length cap)) (hc:∀(j:Nat) (z:ByteArray),zs[j]?=some z→W.cell? ⟨b,off+j,none⟩=some (encB z)) (h0:J [] W) :
 CallsIn F n Tryz.prog 236 #[.func (.yield l) #[] #[],.pointer (some ⟨Bs,0,none⟩)] W fun e W'=>(∃v,e = .returned v)∧
  ((∃ys,ys=zs∧J ys W')∨(∃pre,(∃k,k≤zs.length∧pre=zs.take k)∧Jx pre W')):=by
 refine callsIn_of_wp Tryz.func236 rfl h7 ?_ hro;simp only [Tryz.ntmps236,List.size_toArray,List.length_cons,List.length_nil,Nat.reduceAdd,Nat.reduceSub,Array.replicate_succ,Array.replicate_zero,List.push_toArray,List.append_toArray,List.nil_append,List.cons_append]
 gi_wp2
 gi_loopw [7] (fun i wr=>∃k:Nat,k≤zs.length∧i = .int .i64 k∧J (zs.take k) wr∧Below n₀ W wr)
  (fun i _=>zs.length-(intOf i).toNat)
 case atStart=>exact ⟨0,Nat.zero_le _,rfl,h0,Below.refl _ _⟩
 case round=>
  obtain ⟨k,hk,rfl,hJs,hnx⟩:=hrel;by_cases hlt:k<zs.length
  ·have hcx':wr.cell? ⟨b,off+k,none⟩=some (encB zs[k]):=(hnx.cell (p:=⟨b,off+k,none⟩) hb).trans (hc k zs[k] (by simp));have htk:zs.take (k+1)=zs.take k++[zs[k]]:=(by rw [List.take_add_one,List.getElem?_eq_getElem hlt];rfl);obtain ⟨fn,tmps,assign,body,hy,hR⟩:=hY _ zs[k] wr hJs (by rw [List.length_take];omega)
   gi_wp2
   refine hR.mono ?_
   rintro e W3 (⟨rfl,hJ3,hk3⟩|⟨rfl,hJx3⟩)
   ·gi_wp2
    go_roundw
    case rel=>exact ⟨k+1,by omega,by simp,by rw [htk];exact hJ3,hnx.trans hk3⟩
    case measure=>simp [intOf];omega
   ·gi_wp2
    refine bodyPost_ret (results_none rfl _ _ _) rfl ?_;exact ⟨⟨_,rfl⟩,.inr ⟨_,⟨k+1,by omega,htk.symm⟩,hJx3⟩⟩
  ·obtain rfl:k=zs.length:=by omega
   rw [List.take_of_length_le (Nat.le_refl _)] at hJs
   gi_wp2
   go_end0
   exact ⟨⟨_,rfl⟩,.inl ⟨_,rfl,hJs⟩⟩
set_option maxRecDepth 100000 in
set_option maxHeartbeats 1000000 in
theorem vals_nil_in (F:Fence)(n:Nat)(h7:F.fn 236)(hro:F.round=none)(l Bs cap:Nat)(A:Option Addr)(J:List ByteArray→World→Prop)(W:World)(hBs:W.cell? ⟨Bs,0,none⟩=some (.slice A 0 cap))(h0:J [] W) :
 CallsIn F n Tryz.prog 236 #[.func (.yield l) #[] #[],.pointer (some ⟨Bs,0,none⟩)] W fun e W'=>(∃v,e = .returned v)∧J [] W':=by
 refine callsIn_of_wp Tryz.func236 rfl h7 ?_ hro;simp only [Tryz.ntmps236,List.size_toArray,List.length_cons,List.length_nil,Nat.reduceAdd,Nat.reduceSub,Array.replicate_succ,Array.replicate_zero,List.push_toArray,List.append_toArray,List.nil_append,List.cons_append]
 gi_wp2
 gi_loopw [7] (fun i wr=>i = .int .i64 0∧J [] wr) (fun _ _=>0)
 case atStart=>exact ⟨rfl,h0⟩
 case round=>
  obtain ⟨rfl,hJs⟩:=hrel
  gi_wp2
  go_end0
  exact ⟨⟨_,rfl⟩,hJs⟩
def ValsAt (zs:List ByteArray)(Bs n₀:Nat)(w:World):Prop:=
 ∃A cap,w.cell? ⟨Bs,0,none⟩=some (.slice A zs.length cap)∧Bs<w.heap.size∧(zs≠[]→∃b off,A=some ⟨b,off,none⟩∧b<n₀∧∀(j:Nat) (z:ByteArray),zs[j]?=some z→w.cell? ⟨b,off+j,none⟩=some (encB z))
theorem ValsAt.below {zs:List ByteArray}{Bs n₀:Nat}{w w':World}(h:ValsAt zs Bs n₀ w)(hb:Below w.heap.size w w')(hn:n₀≤w.heap.size):ValsAt zs Bs n₀ w':=by
 obtain ⟨A,cap,h1,h2,h3⟩:=h;refine ⟨A,cap,(hb.cell (p:=⟨Bs,0,none⟩) h2).trans h1,Nat.lt_of_lt_of_le h2 hb.size,fun hne=>?_⟩;obtain ⟨b,off,e,hbn,hc⟩:=h3 hne;exact ⟨b,off,e,hbn,fun j z hz=>(hb.cell (p:=⟨b,off+j,none⟩) (by show b<_;omega)).trans (hc j z hz)⟩
theorem vals_stops (F:Fence)(n:Nat)(h7:F.fn 236)(hro:F.round=none)(hn:1≤n)(Bs n₀:Nat)(zs:List ByteArray)(hreach:zs.length*16≤140737488351232)(w:World)(hn₀:n₀≤w.heap.size)(h:ValsAt zs Bs n₀ w) :
 SeqStopsK F n Tryz.prog 236 #[.pointer (some ⟨Bs,0,none⟩)] (fun x:ByteArray=>#[encB x]) (Below n₀) (fun ys=>ys=zs) (fun pre=>pre <+: zs) zs.length w:=fun l J Jx W hW _ _ hY h0=>by
 obtain ⟨A,cap,h1,h2,h3⟩:=h.below hW hn₀;by_cases hz:zs = []
 ·subst hz;exact (vals_nil_in F n h7 hro l Bs cap A J W h1 h0).mono fun e W' ⟨he,hj⟩=>⟨he,.inl ⟨_,rfl,hj⟩⟩
 ·obtain ⟨b,off,rfl,hb,hc⟩:=h3 hz;refine (vals_in F n h7 hro hn l Bs n₀ b off cap zs hreach hb J Jx hY W h1 hc h0).mono ?_
  rintro e W' ⟨he,⟨ys,rfl,hj⟩|⟨pre,⟨k,hk,rfl⟩,hj⟩⟩
  ·exact ⟨he,.inl ⟨_,rfl,hj⟩⟩
  ·exact ⟨he,.inr ⟨_,List.take_prefix _ _,hj⟩⟩
theorem row_own {W W':World}{row:Option Nat}{base:Nat}{e:TypeId}{size:Nat}{v:Value}{k:Nat}{xs:List Value}(h:W.ownsRow base e size v k xs)(hg:W.grownBy W' row)
 (hrow:∀r,row=some r→∃o:Obj,W.heap[r]?=some o∧o.isCells=false):W'.ownsRow base e size v k xs:=by
 refine h.kept hg ?_;rcases h.2 with ⟨rfl,_⟩|⟨g,cap,cur,rfl,_,hgb,_⟩
 ·exact .inl rfl
 ·refine .inr fun e'=>?_;obtain ⟨o,ho,hw⟩:=hrow g (by simpa [Value.ownBlock] using e'.symm);rw [hgb] at ho;cases ho;cases hw
theorem box_cell {W:World}{B:Nat}{v:Value}{t:TypeId}(h:W.heap[B]?=some (.cells #[v] t (0,0))):W.cell? ⟨B,0,none⟩=some v∧W.frozen? ⟨B,0,none⟩=false:=by
 constructor<;>simp [World.cell?,World.frozen?,h]
def Come (w:World)(pre:List ByteArray)(W:World):Prop:=(∃v,W.heap[w.heap.size]?=some (.cells #[v] 23 (0,0))∧W.ownsRow w.heap.size 9 1 v pre.length (pre.map encB)∧(v = .slice none 0 0↔pre = []))∧Below w.heap.size w W
theorem come_own (w:World):OwnFrom (w.heap.size+1) (Come w):=fun s A B row hs hg hr=>by
 obtain ⟨⟨v,h1,h2,h3⟩,h4⟩:=hs;have hr':∀r,row=some r→∃o:Obj,A.heap[r]?=some o∧o.isCells=false:=fun r e=>(hr r e).2;exact ⟨⟨v,grownBy_keeps_cells hg hr' h1 rfl |>.trans h1,row_own h2 hg hr',h3⟩,h4.grown hg h4.size fun k e=>by have:=(hr k e).1;omega⟩
set_option maxRecDepth 100000 in
set_option maxHeartbeats 4000000 in
theorem appendVals (F:Fence)(n:Nat)(h3:F.fn 261)(h7:F.fn 236)(hro:F.round=none)(hn:3≤n)(Bs n₀:Nat)(zs:List ByteArray)(hreach:zs.length≤1000000000)(w:World)(hn₀:n₀≤w.heap.size)(h:ValsAt zs Bs n₀ w) :
 CallsIn F n Tryz.prog 261 #[.slice none 0 0,.func (.func 236) #[] #[.pointer (some ⟨Bs,0,none⟩)]] w fun e w'=>∃v,e = .returned v∧w'.ownsRow w.heap.size 9 1 v zs.length (zs.map encB)∧(v = .slice none 0 0↔zs = [])∧Below w.heap.size w w':=by
 have h1:1≤n:=by omega
 have i9:(Tryz.prog.info? 9).map (fun i=>(i.zero,i.size,i.bytes))=some (some (.string ⟨#[]⟩),1,16):=by kernel_rfl
 obtain ⟨i0,hi,hz0,hz1,hz2⟩:=info_parts i9;refine callsIn_of_wp_marks Tryz.func261 rfl h3 ?_ hro;simp only [Tryz.ntmps261,List.size_toArray,List.length_cons,List.length_nil,Nat.reduceAdd,Nat.reduceSub,Array.replicate_succ,Array.replicate_zero,List.push_toArray,List.append_toArray,List.nil_append,List.cons_append]
 gi_wp2
 have bS:=Boxed.new w 25 (.slice none 0 0);have hB0:Below w.heap.size w (w.alloc (.cells #[.slice none 0 0] 23)):=(Below.refl _ w).alloc (Nat.le_refl _) _;have hs1:(w.alloc (.cells #[.slice none 0 0] 23)).heap.size=w.heap.size+1:=by simp
 have hV:=h.below hB0 hn₀;refine wpIn_rangeFunc_ownG hro h1 (gf:=236) (lb:=#[.pointer (some ⟨Bs,0,none⟩)]) rfl h7 (enters_of Tryz.func236 (by kernel_rfl) rfl)
  (vals_stops F (n-1) h7 hro (by omega) Bs n₀ zs (by omega) _ (by rw [hs1];omega) hV) belowK_t (belowK_b (by rw [hs1];omega)) (Below.refl _ _) (fun _=>rfl)
  (Come w) (fun _ _ _=>False)
  (by rw [hs1];exact come_own w)
  (fun _ _ _ _ _ hs _ _=>hs)
  ⟨⟨_,World.alloc_heap_new w _,World.ownsRow_nil _ _ _ _,by simp⟩,hB0⟩
  (fun x=>{ tmps:=#[.slice none 0 0,.func (.func 236) #[] #[.pointer (some ⟨Bs,0,none⟩)],.pointer (some ⟨w.heap.size,0,none⟩),undef,.slice none 0 0,encB x,.func (.func 236) #[] #[.pointer (some ⟨Bs,0,none⟩)],encB x,undef,undef,undef,undef,undef],defers:=[] }) ?assign ?body ?done ?stop
 case assign=>
  intro l x W K hK
  gi_wp2_with (rw [Oper.semAt_eq _ _ _ (fun c h=>by cases h)];go_simp;try go_bits)
  exact hK
 case body=>
  rintro l pre x W ⟨⟨v,hv,hrow,hnil⟩,hB⟩ hpl
  obtain ⟨hc2,hf2⟩:=box_cell hv;have hBlt:w.heap.size<W.heap.size:=(Array.getElem?_eq_some_iff.1 hv).1;have hne:some w.heap.size≠v.ownBlock:=fun e'=>by
   rcases hrow.2 with ⟨rfl,_⟩|⟨g,cap,cur,rfl,_,hgb,_⟩
   ·cases e'
   ·have:g=w.heap.size:=(by simpa [Value.ownBlock] using e'.symm);subst this;rw [hv] at hgb;cases hgb
  gi_wp2_with (first
   |(gi_at_builtin;refine wpListIn_append_own _ rfl _ _ 23 rfl w.heap.size 9 i0 (.string ⟨#[]⟩) 1 16 Tryz.underlying23 hi hz0 hz1 hz2 rfl (by decide) _ _ _ rfl (hrow.alloc _) ⟨W.heap.size,0,none⟩ 1 1 [encB x] rfl rfl (cell_one_new _ _ _) (by simp [Value.oneCell',encB]) (by simp only [maxLen];omega) (by omega) (by simp;omega) ?_;intro v' w3 hown' hg3 hnil3
     have hv3:w3.heap[w.heap.size]?=some (.cells #[v] 23 (0,0)):=(hg3.block w.heap.size (by simp;omega) hne).trans ((Below.heap_alloc _ _ _ hBlt).trans hv);obtain ⟨hc3,hf3⟩:=box_cell hv3;obtain ⟨g',cap',cur',rfl,hbase',hgb',hr1,hr2,hr3,hr4⟩:∃g' cap' cur',v' = .slice (some ⟨g',0,none⟩) (pre.length+1) cap'∧w.heap.size≤g'∧w3.heap[g']?=some (.cells cur' 9 (0,0))∧pre.length+1≤cap'∧cap'≤maxLen∧cur'.size=cap'*1∧cur'.toList.take ((pre.length+1)*1)=pre.map encB++[encB x]:=by
      rcases hown'.2 with ⟨_,h0⟩|h'
      ·exact absurd h0 (by omega)
      ·exact h'
     go_frame)
   |(rw [Oper.semAt_eq _ _ _ (fun c h=>by cases h)];go_simp;try go_bits))
  obtain ⟨w4,hw4⟩:∃w4,w3.setCell ⟨w.heap.size,0,none⟩ (.slice (some ⟨g',0,none⟩) (pre.length+1) cap')=w4:=⟨_,rfl⟩;rw [hw4];have hg4:w3.grownBy w4 (some w.heap.size):=by rw [←hw4];exact ⟨rfl,rfl,rfl,by simp [World.setCell],fun k _ hk=>Below.heap_setCell _ _ _ k (fun e=>hk (by rw [e]))⟩
  have hv4:w4.heap[w.heap.size]?=some (.cells #[.slice (some ⟨g',0,none⟩) (pre.length+1) cap'] 23 (0,0)):=by rw [←hw4];exact heap_setCell_same w3 w.heap.size 0 #[v] 23 _ hv3
  have hvb:∀k,v.ownBlock=some k→w.heap.size≤k∧∃cur,W.heap[k]?=some (.cells cur 9 (0,0)):=fun k hk=>by
   rcases hrow.2 with ⟨rfl,_⟩|⟨g,cap,cur,rfl,hbg,hgb,_⟩
   ·cases hk
   ·have:g=k:=(by simpa [Value.ownBlock] using hk);subst this;exact ⟨hbg,cur,hgb⟩
  have hW4:∀k,k<W.heap.size→k≠w.heap.size→v.ownBlock≠some k→w4.heap[k]?=W.heap[k]?:=fun k hk h1 h2=>by
   rw [hg4.block k (by have:=(Array.getElem?_eq_some_iff.1 hv3).1;have:=hg3.size;simp at this;omega) (fun e=>h1 (Option.some.inj e))];rw [hg3.block k (by simp;omega) (fun e=>h2 e.symm)];exact Below.heap_alloc _ _ k hk
  have hsz4:W.heap.size≤w4.heap.size:=by have h1:=hg3.size;have h2:=hg4.size;simp at h1;omega
  have hb3:Below w.heap.size w w3:=(hB.alloc hB.size _).grown hg3 (by have:=hB.size;simp;omega) (fun k e=>(hvb k e).1);have hb4:Below w.heap.size w w4:=hb3.grown hg4 hb3.size (fun k e=>by cases e;exact Nat.le_refl _);refine ⟨⟨hsz4,fun k o hk ho hc=>?_⟩,⟨?_,?_,?_,hsz4,fun k hk=>?_⟩,⟨_,hv4,?_,by simp⟩,hb4⟩
  ·rw [hW4 k (Array.getElem?_eq_some_iff.1 ho).1 (by rw [hs1] at hk;omega) fun e=>?_]
   ·exact ho
   ·obtain ⟨_,cur,hcur⟩:=hvb k e;rw [hcur] at ho;cases ho;cases hc
  ·exact hg4.os.trans (hg3.os.trans rfl)
  ·exact hg4.tape.trans (hg3.tape.trans rfl)
  ·exact hg4.output.trans (hg3.output.trans rfl)
  ·exact hW4 k (by omega) (by omega) fun e=>by have:=(hvb k e).1;omega
  ·have:=hown'.kept hg4 (.inr fun e=>by
    have e2:g'=w.heap.size:=(by simpa [Value.ownBlock] using e);rw [e2,hv3] at hgb';cases hgb')
   simpa using this
 case done=>
  rintro D ys W hD rfl ⟨⟨v,hv,hrow,hnil⟩,hB⟩ hK
  obtain ⟨hc,hf⟩:=box_cell hv
  gi_wp2
  refine ⟨by simp,.inl ⟨_,_,rfl,run_takeDeferred hK,?_⟩⟩;have hr':∀r,some D=some r→∃o:Obj,W.heap[r]?=some o∧o.isCells=false:=fun r e=>by cases e;exact ⟨_,hK,rfl⟩
  exact ⟨_,results_tmp rfl _ _ _,v,rfl,row_own hrow (grownBy_putObj' W D _) hr',hnil,hB.grown (grownBy_putObj' W D _) hB.size fun k e=>by cases e;rw [hs1] at hD;omega⟩
 case stop=>
  rintro D c pre W _ _ h _
  exact h.elim
set_option maxHeartbeats 1000000 in
set_option maxRecDepth 100000 in
theorem collectVals (F:Fence)(n:Nat)(h8:F.fn 224)(h3:F.fn 261)(h7:F.fn 236)(hro:F.round=none)(hn:4≤n)(Bs n₀:Nat)(zs:List ByteArray)(hreach:zs.length≤1000000000)(w:World)(hn₀:n₀≤w.heap.size)(h:ValsAt zs Bs n₀ w) :
 CallsIn F n Tryz.prog 224 #[.func (.func 236) #[] #[.pointer (some ⟨Bs,0,none⟩)]] w fun e w'=>∃v,e = .returned v∧w'.ownsRow w.heap.size 9 1 v zs.length (zs.map encB)∧(v = .slice none 0 0↔zs = [])∧Below w.heap.size w w':=by
 have h1:1≤n:=by omega
 refine callsIn_of_wp Tryz.func224 rfl h8 ?_ hro;simp only [Tryz.ntmps224,List.size_toArray,List.length_cons,List.length_nil,Nat.reduceAdd,Nat.reduceSub,Array.replicate_succ,Array.replicate_zero,List.push_toArray,List.append_toArray,List.nil_append,List.cons_append]
 gi_wp2_with (gi_at_call 261;refine (appendVals F (n-1) h3 h7 hro (by omega) Bs n₀ zs hreach _ hn₀ h).mono ?_;rintro e w' ⟨v,rfl,hrow,hnil,hb⟩)
 go_ret
 exact ⟨v,rfl,hrow,hnil,hb⟩
theorem encB_map (zs:List ByteArray):zs.map encB=(zs.map (·.data.toList)).map encStr:=by
 rw [List.map_map];refine List.map_congr_left fun z _=>?_;simp [encB,encStr]
set_option maxRecDepth 100000 in
set_option maxHeartbeats 2000000 in
theorem sortedVals (Bs n₀:Nat)(zs:List ByteArray)(hreach:zs.length≤1000000000)(w:World)(hn₀:n₀≤w.heap.size)(h:ValsAt zs Bs n₀ w) :
 CallsIn Fence.wide 6 Tryz.prog 172 #[.func (.func 236) #[] #[.pointer (some ⟨Bs,0,none⟩)]] w fun e w'=>∃v,e = .returned v∧
  w'.ownsRow w.heap.size 9 1 v zs.length (((zs.map (·.data.toList)).mergeSort (fun x y=>decide (x≤y))).map encStr)∧Below w.heap.size w w':=by
 have hsort:AnyZ.SortsIn Tryz.prog Tryz.sorted48_ren Fence.wide 5:=Tryz.sorts48 _;have f94:Fence.wide.fn 224:=trivial;obtain ⟨ss,hss⟩:∃ss:List (List UInt8),zs.map (·.data.toList)=ss:=⟨_,rfl⟩;have hlen:zs.length=ss.length:=by rw [←hss];simp
 rw [hss,hlen];have f95:Fence.wide.fn 139:=trivial;refine callsIn_of_wp Tryz.func172 rfl trivial ?_ rfl;simp only [Tryz.ntmps172,List.size_toArray,List.length_cons,List.length_nil,Nat.reduceAdd,Nat.reduceSub,Array.replicate_succ,Array.replicate_zero,List.push_toArray,List.append_toArray,List.nil_append,List.cons_append]
 gi_wp2_with (gi_at_call 224;refine (collectVals Fence.wide 5 trivial trivial trivial rfl (by omega) Bs n₀ zs hreach _ hn₀ h).mono ?_;rintro e W ⟨v,rfl,hrow,hnil,hb⟩)
 rw [encB_map,hss,hlen] at hrow;rw [hlen] at hreach;rcases hrow.2 with ⟨rfl,hz⟩|⟨gb,cap,cur,rfl,hbase,hgb,r1,r2,r3,r4⟩
 ·have hss0:ss = []:=List.eq_nil_of_length_eq_zero hz;subst hss0
  gi_wp2_with (gi_at_call 139;refine (hsort.2 none 0 W).mono ?_;rintro e w' ⟨rfl,rfl⟩)
  go_ret
  exact ⟨.slice none 0 0,rfl,by simpa using hrow,hb⟩
 ·have hH:Holds encStr W gb 0 ss.toArray:=holds_of_block hgb (by simpa using r4);have hgl:gb<W.heap.size:=(Array.getElem?_eq_some_iff.1 hgb).1;have hsz:ss.length<4611686018427387904:=by omega
  have cS:=hsort.1 gb 0 cap ss W hH hgl hsz
  gi_wp2_with (gi_at_call 139;refine cS.mono ?_;rintro e w' ⟨rfl,nn,os,rfl⟩)
  go_ret
  exact ⟨_,rfl,ownsRow_sorted (by simp) hbase hgb r1 r2 r3,hb.grown (grownBy_sorted _) hb.size (fun j hj=>by cases hj;exact hbase)⟩
set_option maxHeartbeats 1000000 in
set_option maxRecDepth 100000 in
theorem vals_mk (F:Fence)(n:Nat)(h5:F.fn 183)(hro:F.round=none)(a:Option Addr)(len cap:Nat)(w:World) :
 CallsIn F n Tryz.prog 183 #[.slice a len cap] w fun e w'=>e = .returned (.func (.func 236) #[] #[.pointer (some ⟨w.heap.size,0,none⟩)])∧w'=w.alloc (.cells #[.slice a len cap] 23):=by
 refine callsIn_of_wp Tryz.func183 rfl h5 ?_ hro;simp only [Tryz.ntmps183,List.size_toArray,List.length_cons,List.length_nil,Nat.reduceAdd,Nat.reduceSub,Array.replicate_succ,Array.replicate_zero,List.push_toArray,List.append_toArray,List.nil_append,List.cons_append]
 gi_wp2
 go_ret
 exact ⟨rfl,rfl⟩
def VQ (l:List ByteArray)(w:World)(F:Nat→Prop)(v:Value):Prop:=
 ∃kb A cap,v = .func (.func 236) #[] #[.pointer (some ⟨kb,0,none⟩)]∧F kb∧w.heap[kb]?=some (.cells #[.slice A l.length cap] 23 (0,0))∧(l≠[]→∃b off,A=some ⟨b,off,none⟩∧F b∧∀(j:Nat) (z:ByteArray),l[j]?=some z→w.cell? ⟨b,off+j,none⟩=some (encB z))
theorem VQ.mono {l:List ByteArray}{w w':World}{F F':Nat→Prop}{v:Value}(h:VQ l w F v)(h1:∀k,F k→w'.heap[k]?=w.heap[k]?)(h2:∀k,F k→F' k):VQ l w' F' v:=by
 obtain ⟨kb,A,cap,e,q1,q2,q3⟩:=h;refine ⟨kb,A,cap,e,h2 _ q1,(h1 _ q1).trans q2,fun hne=>?_⟩;obtain ⟨b,off,e2,hb,hc⟩:=q3 hne;exact ⟨b,off,e2,h2 _ hb,fun j z hz=>(World.cell?_of_block (w:=w) (h1 b hb)).trans (hc j z hz)⟩
theorem h98 (Gl:Granted)(l:List ByteArray):Fun Tryz.prog Gl 183 [.pv (namesV l)] [] (.opq (VQ l)) []:=by
 refine ⟨⟨_,Tryz.func183,by kernel_rfl,rfl⟩,fun w0 F0 hd0 cargs hg hl hlen hr=>?_⟩;have hd:=dead_hd hl;subst hd
 match cargs,hlen with
 |[c],_=>
  have h0:=hr 0 _ c rfl rfl;cases h0 with
  |pv _ _ hp=>cases hp with
   |ro _ _ A cap u hA hc hm hl' ha hrr=>
    rw [List.length_map];refine (callsIn_wide.1 (vals_mk Fence.wide 0 trivial rfl A l.length cap w0)).mono fun e w' ⟨he,hw⟩=>?_;subst hw;have hold:∀k,k<w0.heap.size→(w0.alloc (.cells #[.slice A l.length cap] 23)).heap[k]?=w0.heap[k]?:=fun k hk=>Below.heap_alloc _ _ _ hk;have hsz:(w0.alloc (.cells #[.slice A l.length cap] 23)).heap.size=w0.heap.size+1:=(by simp);refine ⟨_,fun k=>F0 k∨k=w0.heap.size,fun _=>.dead,he,.opq _ _ rfl fun w2 F2 h1 h2=>?_,⟨fun k hk=>?_,fun r s k _ h=>h.elim,fun r k h=>h.elim,fun r=>rfl⟩,
     ⟨fun r k h=>h.elim,fun k hk=>?_,fun k hk=>.inl hk,fun i=>.inl rfl,rfl,rfl,rfl,by show w0.heap.size≤(w0.alloc (.cells #[.slice A l.length cap] 23)).heap.size;rw [hsz];omega,fun k hk _=>hold k hk⟩⟩
    ·refine VQ.mono (w:=w0.alloc (.cells #[.slice A l.length cap] 23)) (F:=fun k=>F0 k∨k=w0.heap.size) ⟨w0.heap.size,A,cap,rfl,.inr rfl,heap_alloc_new w0 _,fun hne=>?_⟩ h1 h2;obtain ⟨ad,e1,e2,e3,e4⟩:=ha (by simpa using hne);obtain ⟨b,off,sp⟩:=ad;simp only at e2 e3;subst e2;refine ⟨b,off,e1,.inl e3,fun j z hz=>?_⟩;have hj1:(l.map fun s=>[PV.val (.string s)])[j]?=some [PV.val (.string z)]:=(by rw [List.getElem?_map,hz];rfl);have hcell:=e4 j 0 _ (PV.val (.string z)) hj1 rfl;have hval:=hrr j 0 _ (PV.val (.string z)) hj1 rfl;rw [str_cell hval] at hcell;rw [World.cell?_of_block (w:=w0) (hold b (hl.fin b e3))];rw [←hcell];congr 1;unfold Addr.add;split
     ·rename_i h;simp at h;subst h;rfl
     ·simp
    ·show k<(w0.alloc (.cells #[.slice A l.length cap] 23)).heap.size;rw [hsz];rcases hk with hk|rfl
     ·have:=hl.fin k hk;omega
     ·omega
    ·rcases hk with hk|rfl
     ·exact .inl hk
     ·exact .inr (.inl (Nat.le_refl _))
end Go.Proofs.D
