/-
  THE DFA OF ALL STATES that are met, gone through.
-/
import Derived.Test.YtkjfaanenmhlbaaGreatDoorZ5
import Derived.Test.YtkjfaanenmhlbaaGreatDoorH21
import Derived.Test.YtkjfaanenmhlbaaGreatDoorG12
import Derived.Test.YtkjfaanenmhlbaaGreatDoorG15
import Derived.Test.YtkjfaanenmhlbaaGreatDoorAbsMB
import Derived.Test.YtkjfaanenmhlbaaGreatDoorG7
import Derived.Test.YtkjfaanenmhlbaaGreatDoorG9
set_option linter.unusedVariables false
set_option linter.unusedSimpArgs false
namespace Go.Proofs.D
open Go Go.Abs
noncomputable def metE (A:List Stt):Ents:=A.zipIdx.map fun p=>(Value.string (skey p.1),vI (p.2:Nat))
theorem metE_snoc (A:List Stt)(S:Stt):metE (A++[S])=metE A++[(.string (skey S),vI A.length)]:=by
 simp [metE,List.zipIdx_append]
theorem metE_mem {A:List Stt}{S:Stt}{n:Nat}(h:A[n]?=some S):(.string (skey S),vI n)∈metE A:=
 List.mem_map.2 ⟨(S,n),List.mem_zipIdx_iff_getElem?.2 h,rfl⟩
theorem metE_of {A:List Stt}{p:Value × AV}(h:p∈metE A):∃S∈A,p.1 = .string (skey S):=by
 obtain ⟨q,hq,rfl⟩:=List.mem_map.1 h;obtain ⟨h1,h2⟩:=List.mem_zipIdx' hq;exact ⟨q.1,by rw [h2];exact List.getElem_mem _,rfl⟩
open Classical in
theorem whole_step (e:E)(i:Nat)(S:Stt)(h:(wholeM e i).1[i]?=some S):wholeM e (i+1)=((rowK id (wholeM e i).1 (nextsS e.names S)).1,(wholeM e i).2++[(rowK id (wholeM e i).1 (nextsS e.names S)).2]):=by
 unfold wholeM at h ⊢;simp only [met,h]
open Classical in
theorem whole_end (e:E)(i W:Nat)(h:(wholeM e i).1.length≤i)(hi:i≤W):wholeM e W=wholeM e i:=by
 have:=met_end id (nextsS e.names) (one e) i h (W-i);rw [show i+(W-i)=W by omega] at this;exact this
open Classical in
theorem whole_nodup (e:E)(i:Nat):((wholeM e i).1.map id).Nodup:=(met_is id (nextsS e.names) (one e) i).nodup
open Classical in
theorem whole_rows (e:E)(i:Nat)(hi:i≤(wholeM e i).1.length):(wholeM e i).2.length=i:=by
 have h:Met id (nextsS e.names) (one e) i (wholeM e i).1 (wholeM e i).2:=met_is _ _ _ _;rcases h.many with h|h<;>omega
open Classical in
theorem whole_pre (e:E)(i:Nat):∃m,(wholeM e (i+1)).1=(wholeM e i).1++m:=by
 cases h:(wholeM e i).1[i]? with
 |none=>
  refine ⟨[],?_⟩;rw [whole_end e i (i+1) (List.getElem?_eq_none_iff.1 h) (by omega)];simp
 |some s=>
  rw [whole_step e i s h];obtain ⟨m,h1,_⟩:=rowK_spec id (nextsS e.names s) (wholeM e i).1 (whole_nodup e i);exact ⟨m,h1⟩
theorem ofE_tame {e:E}(h:Tame e){S:Stt}(hS:OfE e S):∀r,S r→TameR r:=fun r hr=>pdAll_tame h r (hS.1 r hr)
theorem ofE_next {e:E}(h:Tame e){S:Stt}(hS:OfE e S)(a:ByteArray):∀r,S r→∀x∈stepR a r,TameR x:=fun r hr x hx=>by
 obtain ⟨h1,h2⟩:=pdAll_step a r (hS.1 r hr) x hx;exact pdAll_tame h x (by simp only [pdAll,List.mem_cons,List.mem_flatMap];exact .inr ⟨a,h2,h1⟩)
abbrev sttB (A:List Stt):Blk:=.row 309 1 (A.map fun S=>[stV S])
abbrev intsB' (l:List Int):Blk:=.row 3 1 (l.map fun z=>[.val (.int .i64 z)])
abbrev rowsB' (l:List (List Int)):Blk:=.row 50 1 (l.map fun r=>[ints r])
abbrev finB' (l:List Bool):Blk:=.row 4 1 (l.map fun b=>[.val (.bool b)])
theorem names_len {e:E}(h:Tame e):e.names.length≤24:=by
 rw [←namesR_names];exact Nat.le_trans (namesR_len e) h.2
theorem skey_size {e:E}(h:Tame e){S:Stt}(hS:OfE e S):(skey S).size≤maxLen:=by
 obtain ⟨l,hl⟩:=lists_some hS.1;have h1:=lists_len h.2 hS.1 hl;rw [skey_eq hl];refine Nat.le_trans (join_size _ _) ?_;have e59:(⟨#[59]⟩:ByteArray).size=1:=rfl;have hb:∀x∈sortB (l.map rtext),x.size≤10000:=fun x hx=>by
  rw [sortB_mem] at hx;obtain ⟨r,hr,rfl⟩:=List.mem_map.1 hx;exact rtext_size (ofE_tame h hS r ((hl.2 r).1 hr))
 have hlen:(sortB (l.map rtext)).length≤1000:=by rw [sortB_len,List.length_map];omega
 have key:∀m:List ByteArray,(∀x∈m,x.size≤10000)→(m.map fun x=>x.size+(⟨#[59]⟩:ByteArray).size).sum≤10001*m.length:=by
  intro m;induction m with
  |nil=>simp
  |cons x m ih=>
   intro hm;have h1:=ih fun y hy=>hm y (by simp [hy]);have h2:=hm x (by simp);simp only [List.map_cons,List.sum_cons,List.length_cons,e59] at h1 ⊢;omega
 have:=key _ hb;simp only [maxLen];omega
open Classical in
theorem nextsS_get {names:List ByteArray}(S:Stt){k:Nat}(hk:k<names.length):(nextsS names S)[k]?=some (if ∃x,stepS names[k] S x then some (stepS names[k] S) else none):=by
 simp [nextsS,hk]
open Classical in
theorem nextsS_of {e:E}{S T:Stt}(hS:OfE e S)(h:some T∈nextsS e.names S):OfE e T:=by
 obtain ⟨a,_,ha⟩:=List.mem_map.1 h;split at ha
 ·cases ha;exact ofE_step hS a ‹_›
 ·cases ha
theorem nextsS_len (names:List ByteArray)(S:Stt):(nextsS names S).length=names.length:=by simp [nextsS]
open Classical in
set_option maxRecDepth 20000 in
set_option maxHeartbeats 8000000 in
theorem h93 (Gl:Granted)(e:E)(he:Tame e):Fun Tryz.prog Gl 181 [e.av] [] (whole e).av []:=by
 have hnl:=names_len he;have hlen:=fun i=>wholeM_len he.2 i;have hof:=fun i=>wholeM_of e i;obtain ⟨W,hW⟩:∃W,BW=W:=⟨_,rfl⟩;have hWn:W≤16777216:=by rw [←hW];exact Nat.le_refl _
 have hwhole:(whole e).av = .agg [.pv (namesV e.names),.pv (rowsV (wholeM e W).2),.pv (finV ((wholeM e W).1.map finS))]:=by
  simp only [whole,Au.av,Au.cells,hW]
 rw [hwhole];simp only [hW] at hlen;clear hwhole hW;have hone:Lists (one e) [[e]]:=⟨by simp,fun r=>by simp [one]⟩;have htr:TameR [e]:=⟨by simp,fun k hk=>by simp at hk;exact hk ▸ he⟩;refine fun_of (T:=T5) (n:=99) (rs:=[.cell 2 137]) Tryz.func181 (by kernel_rfl) rfl rfl rfl tok5 mixed (by simp) fun C hC=>?_;refine hC.go [24] 90 ?_;simp [E.av,E.cells];refine hC.call [] (f25 Gl e (ok_small e he.1) (by have:=he.2;omega)) (by simp [E.av,E.cells]) ?_;refine hC.go [24] 90 ?_;simp;refine hC.mapMake 9 rfl rfl (by simp) ?_;refine hC.go [24] 90 ?_;simp;refine hC.call [] (h134 Gl [e] htr) (by simp [E.pv_eq e]) ?_;refine hC.go [24] 90 ?_;simp;refine hC.mapPut (l:=[]) (av:=rV [e]) Tryz.underlying309 (Maps.string_keyed Tryz.underlying9) (.loc 19) (entsOf [[e]]) (.inr rfl) (key_one _) (key_st9 _ (by have:=rtext_size htr;simp only [maxLen];omega)) (.inl ⟨by simp,rfl⟩) (by simp [E.pv_eq e]) ?_;refine hC.go [24] 90 ?_;simp;refine hC.buildOwnM (d:=24) (t:=23) (e:=309) (r:=.loc 19) (mapG Tryz.prog 9 (entsOf [[e]])) (stQ (one e)) (fun w F o h=>⟨[[e]],hone,h⟩) rfl rfl (by simp) (by simp) (by simp) ?_;refine hC.go [24] 90 ?_;simp;have hof0:OfE e (one e):=ofE_one e;refine hC.mapMake 9 rfl rfl (by simp) ?_;refine hC.go [24] 90 ?_;simp;refine hC.call [] (h135 Gl (one e) (ofE_tame he hof0) (fun l hl=>by have:=lists_len he.2 hof0.1 hl;omega)) (by simp) ?_;refine hC.go [24] 90 ?_;simp;refine hC.mapPut (l:=[]) (av:=vI 0) Tryz.underlying244 (Maps.string_keyed Tryz.underlying9) (.loc 25) (metE [one e]) (.inr rfl) (key_one _) (key_st9 _ (skey_size he hof0)) (.inl ⟨by simp,rfl⟩) (by simp) ?_;refine hC.go [24] 90 ?_;simp;refine go_loop (ι:={i:Nat // i≤W∧i≤(wholeM e i).1.length}) (fun x=>⟨[(2,.ptr (.loc 2) 0),(3,.ptr (.loc 3) 0),(5,.own (.can 0)),(6,.hmap (.can 1)),(7,vI x.1)],
  [(.loc 2,some (.box 137 [nm0,nm0,nm0])),(.loc 3,some (.box 137 [.pv (namesV e.names),.own (.can 2),.own (.can 3)])),(.can 0,some (sttB (wholeM e x.1).1)),(.can 1,some (.gen (mapG Tryz.prog 9 (metE (wholeM e x.1).1)))),(.can 2,some (rowsB' (wholeM e x.1).2)),(.can 3,some (finB' (((wholeM e x.1).1.take x.1).map finS)))]⟩)
  (fun x=>W-x.1) ⟨0,by simp⟩ [(.can 0,.nm (.loc 24)),(.can 1,.nm (.loc 25)),(.can 2,.nil),(.can 3,.nil)] (by simp [wholeM,met]) fun x ih=>?_
 obtain ⟨i,hi,hi2⟩:=x;simp only at ih;by_cases hlt:i<(wholeM e i).1.length
 ·have hle1:=hlen (i+1);have hle0:=hlen i;have hrows:=whole_rows e i hi2;obtain ⟨m1,hpre⟩:=whole_pre e i;have ih':=ih ⟨i+1,by omega,by rw [hpre,List.length_append];omega⟩ (by simp;omega);obtain ⟨S,hS⟩:∃S,(wholeM e i).1[i]=S:=⟨_,rfl⟩;have hSe:=hof i S (by rw [←hS];simp);have hstep:=whole_step e i S (by rw [List.getElem?_eq_getElem hlt,hS]);have hnd:=whole_nodup e i;have hofi:=hof i;rw [hstep] at hle1 hpre;simp only at hle1 hpre;simp only [hstep] at ih';simp only [hpre] at ih';rw [show ((wholeM e i).1++m1).take (i+1)=(wholeM e i).1.take i++[S] by rw [List.take_append_of_le_length (by omega),List.take_add_one,List.getElem?_eq_getElem hlt,hS];rfl] at ih';rw [←hpre] at ih';dsimp only at ih' ⊢;clear hstep ih hlen;generalize wholeM e i=M at hlt hS ih' hnd hofi hrows hle0 hle1 hpre hi2;obtain ⟨A,R⟩:=M;simp only at hlt hS ih' hnd hofi hrows hle0 hle1 hpre hi2;have hw1:=wr64 ((i:Int)+1) (by omega);have hll:=nextsS_len e.names S;have hlk:=fun k (hk:k<e.names.length)=>nextsS_get S hk;have hlof:=fun T (h:some T∈nextsS e.names S)=>nextsS_of hSe h;have hnt:=fun a=>ofE_next he hSe a;generalize nextsS e.names S=l at ih' hll hlk hlof hle1 hpre;generalize e.names=N at *;generalize hfin:(A.take i).map finS=fs at ih';have hfsl:fs.length=i:=by rw [←hfin,List.length_map,List.length_take];omega
  rw [List.map_append,hfin] at ih';simp only [List.map_cons,List.map_nil] at ih';refine hC.go [] 90 ?_;simp [hlt];refine go_loop (ι:={k:Nat // k≤N.length}) (fun x=>⟨[(2,.ptr (.loc 2) 0),(3,.ptr (.loc 3) 0),(5,.own (.can 0)),(6,.hmap (.can 1)),(7,vI i),(8,.own (.can 4)),(38,.pv (namesV N)),(39,vI N.length),(40,vI x.1)],
   [(.loc 2,some (.box 137 [nm0,nm0,nm0])),(.loc 3,some (.box 137 [.pv (namesV N),.own (.can 2),.own (.can 3)])),(.can 0,some (sttB (rowQ id A l x.1).1)),(.can 1,some (.gen (mapG Tryz.prog 9 (metE (rowQ id A l x.1).1)))),(.can 2,some (rowsB' R)),(.can 3,some (finB' fs)),(.can 4,some (intsB' (rowQ id A l x.1).2))]⟩)
   (fun x=>N.length-x.1) ⟨0,Nat.zero_le _⟩ [(.can 4,.nil)] (by simp [rowQ_zero]) fun x ihk=>?_
  obtain ⟨k,hk⟩:=x;simp only at hk ihk;obtain ⟨q1,q2,q3,m2,q4,q5⟩:=rowQ_facts id (l:=l) hnd k (by omega);have q3':(rowQ id A l k).1.length≤W:=Nat.le_trans q3 hle1;have qof:∀x∈(rowQ id A l k).1,OfE e x:=fun x hx=>by
   rw [q4] at hx;rcases List.mem_append.1 hx with hx|hx
   ·exact hofi x hx
   ·exact hlof x (q5 x hx)
  have hAi:(rowQ id A l k).1[i]?=some S:=by rw [q4,List.getElem?_append_left hlt,List.getElem?_eq_getElem hlt,hS]
  by_cases hkl:k<N.length
  ·have hwk:=wr64 ((k:Int)+1) (by omega);have ihk':=ihk ⟨k+1,hkl⟩ (by simp;omega);have hlkk:=hlk k hkl;clear ih' ihk;obtain ⟨a,ha⟩:∃a,N[k]=a:=⟨_,rfl⟩;rw [ha] at hlkk;obtain ⟨S',hS'⟩:∃S',stepS a S=S':=⟨_,rfl⟩;have hcall:=h136 Gl S a (ofE_tame he hSe) (hnt a);rw [hS'] at hlkk hcall;by_cases hx:∃x,S' x
   ·rw [if_pos hx] at hlkk;rw [rowQ_some id hlkk] at ihk';have hSe':=hlof S' (List.mem_of_getElem? hlkk);have hkey:=h135 Gl S' (ofE_tame he hSe') (fun l' hl'=>by have:=lists_len he.2 hSe'.1 hl';omega);have hksz:=skey_size he hSe';generalize rowQ id A l k=Q at q1 q2 q3 q3' q4 qof hAi ihk';obtain ⟨A',Z⟩:=Q;simp only at q1 q2 q3 q3' q4 qof hAi ihk';have hiA:=(List.getElem?_eq_some_iff.1 hAi).1;have hAe:A'[i]=S:=(List.getElem?_eq_some_iff.1 hAi).2;refine hC.go [] 90 ?_;simp [hkl,ha,hiA,hAe];refine hC.call [] hcall (by simp) ?_;refine hC.go [] 90 ?_;simp;refine hC.mapLenN Tryz.underlying309 (Lists S') entsOf rfl (by simp) (by simp;rfl) fun l' hl'=>?_;have hl0:¬l' = []:=fun e=>by
     obtain ⟨r,hr⟩:=hx;have:=(hl'.2 r).2 hr;rw [e] at this;cases this
    refine hC.go [] 90 ?_;simp [hl0];refine hC.call [] hkey (by simp) ?_;refine hC.go [] 90 ?_;simp;have hz3:∃z,(∀w,(zeroValue 3).run Tryz.prog w = .ok z w)∧∀(w:World) (F:Nat→Prop) (hd:Nm→Hd),Rep w F hd (vI 0) z:=⟨.int .i64 0,Tryz.zeroValue3,fun _ _ _=>rep_val rfl⟩;by_cases hm:S'∈A'
    ·rw [if_pos (by simpa using hm)] at ihk';simp only [id_eq,List.map_id] at ihk';have hix:=ixK_mem hm;obtain ⟨ix,hixe⟩:∃n,ixK S' A'=n:=⟨_,rfl⟩;rw [hixe] at hix ihk';refine hC.mapGet Tryz.underlying244 (Maps.string_keyed Tryz.underlying9) (.can 1) (zero:=vI 0) (l:=metE A') hz3 (.tup [vI ix,vB true]) rfl (key_one _) (key_st9 _ hksz) (.inr ⟨vI ix,metE_mem hix,rfl⟩) (by simp) ?_;refine hC.go [] 90 ?_;simp;refine ⟨by omega,?_⟩;exact go_to [(.can 4,.nm (.loc 80))] ihk' (by simp [hwk])
    ·rw [if_neg (by simpa using hm)] at ihk';simp only at ihk';have hnk:∀p∈metE A',p.1≠.string (skey S'):=fun p hp e=>by
      obtain ⟨T,hT,hTe⟩:=metE_of hp;rw [hTe] at e;simp only [Value.string.injEq] at e;exact hm (skey_inj he (qof T hT) hSe' e ▸ hT)
     refine hC.mapGet Tryz.underlying244 (Maps.string_keyed Tryz.underlying9) (.can 1) (zero:=vI 0) (l:=metE A') hz3 (.tup [vI 0,vB false]) rfl (key_one _) (key_st9 _ hksz) (.inl ⟨hnk,rfl⟩) (by simp) ?_;refine hC.go [] 90 ?_;simp;refine hC.call [] hkey (by simp) ?_;refine hC.go [] 90 ?_;simp;refine ⟨by omega,?_⟩;refine hC.entryNew (zero:=vI 0) (z:=.int .i64 0) (l:=metE A') Tryz.underlying244 (Maps.string_keyed Tryz.underlying9) (.can 1) Tryz.zeroValue3 (fun _ _ _=>rep_val rfl) rfl rfl (key_one _) (key_st9 _ hksz) hnk (by simp) fun st=>?_;refine hC.go [] 90 ?_;simp;refine hC.entryPut (k:=9) (.can 1) (key:=.string (skey S')) (zero:=vI 0) (av:=vI A'.length) (st:=st) (l:=metE A') rfl (by simp) ?_;refine hC.go [] 90 ?_;simp;refine ⟨by omega,?_⟩;exact go_to [(.can 4,.nm (.loc 80)),(.can 0,.nm (.loc 73))] ihk' (by simp [hwk,metE_snoc])
   ·rw [if_neg hx] at hlkk;rw [rowQ_none id hlkk] at ihk';generalize rowQ id A l k=Q at q1 q2 q3 q3' q4 qof hAi ihk';obtain ⟨A',Z⟩:=Q;simp only at q1 q2 q3 q3' q4 qof hAi ihk';have hiA:=(List.getElem?_eq_some_iff.1 hAi).1;have hAe:A'[i]=S:=(List.getElem?_eq_some_iff.1 hAi).2;refine hC.go [] 90 ?_;simp [hkl,ha,hiA,hAe];refine hC.call [] hcall (by simp) ?_;refine hC.go [] 90 ?_;simp;refine hC.mapLenN Tryz.underlying309 (Lists S') entsOf rfl (by simp) (by simp;rfl) fun l' hl'=>?_;have hl0:l' = []:=List.eq_nil_iff_forall_not_mem.2 fun r hr=>hx ⟨r,(hl'.2 r).1 hr⟩;subst hl0;refine hC.go [] 90 ?_;simp;refine ⟨by omega,?_⟩;exact go_to [(.can 4,.nm (.loc 55))] ihk' (by simp [hwk])
  ·have hkN:k=N.length:=(by omega);subst hkN;rw [←rowQ_all,hll] at ih';clear ihk q1 q3 q3' q4 q5;have hfinal:=h137 Gl S (ofE_tame he hSe) (finS S) (by simp [finS]);generalize rowQ id A l N.length=Q at ih' q2 hAi qof;obtain ⟨A',Z⟩:=Q;simp only at ih' q2 hAi qof;have hiA:=(List.getElem?_eq_some_iff.1 hAi).1;have hAe:A'[i]=S:=(List.getElem?_eq_some_iff.1 hAi).2;refine hC.til [21] [] 90 ?_;simp;refine go_to (M:=⟨[(2,.ptr (.loc 2) 0),(3,.ptr (.loc 3) 0),(5,.own (.can 0)),(6,.hmap (.can 1)),(7,vI i),(8,.pv (ints Z))],
    [(.loc 2,some (.box 137 [nm0,nm0,nm0])),(.loc 3,some (.box 137 [.pv (namesV N),.own (.can 2),.own (.can 3)])),(.can 0,some (sttB A')),(.can 1,some (.gen (mapG Tryz.prog 9 (metE A')))),(.can 2,some (rowsB' R)),(.can 3,some (finB' fs))]⟩) [] ?_ (by simp)
   refine hC.drawn (by kernel_rfl) (by simp) ?_;refine hC.go [] 90 ?_;simp [hiA,hAe];refine ⟨by omega,?_⟩;refine hC.call [] hfinal (by simp) ?_;refine hC.go [] 90 ?_;simp;refine ⟨by omega,?_⟩;exact go_to [(.can 2,.nm (.loc 86)),(.can 3,.nm (.loc 95))] ih' (by simp [hw1])
 ·have hin:i=(wholeM e i).1.length:=by omega
  rw [whole_end e i W (by omega) hi] at hC;have htk:(wholeM e i).1.take i=(wholeM e i).1:=List.take_of_length_le (by omega);simp only [htk];refine hC.go [] 90 ?_;simp [hlt,Au.av,Au.cells]
def dig:Nat→Nat→Code→Option Code
 |0,_,_=>none
 |n+1,id,.seq x y=>if firstR 20 x=some id then some (.seq x y) else match dig n id x with|some c=>some c|none=>dig n id y
 |n+1,id,.block _ c=>dig n id c
 |n+1,id,.loop c=>dig n id c
 |_,_,_=>none
end Go.Proofs.D
