/-
  THE LAW ValidSame: whatever the input, it answers true, and each argument reads as it did: the card, out of the walk.
-/
import Derived.Test.YtkjfaanenmhlbaaGreatDoorR7
import Derived.Test.YtkjfaanenmhlbaaGreatDoorB8
import Derived.Test.YtkjfaanenmhlbaaGreatDoorJ13
set_option linter.unusedVariables false
set_option linter.unusedSimpArgs false
namespace Go.Proofs.YtkjfaanenmhlbaaGreatDoor
open Go Go.Abs Go.RowKit Go.ChangeShapes Go.WideShapes Go.Proofs.D
set_option maxRecDepth 20000 in
theorem validSame_contract (H:Type)(enc:TypeId × Value→H)(W:World)(base:Nat)(args:Array Value)(ds gs:List (DataW H))(before:List MemPlace)
 (hval:∀(j:Nat) t v,Tryz.f8.params[j]?=some t→args[j]?=some v→Value.okWide Tryz.prog W .any base t v)
 (hW:DataW.Whole enc Tryz.prog Tryz.f8.params.toList Rows.validSameSpec.vars false W args.toList ds gs before)
 (hsz:(DataW.weightsEach Tryz.prog (Tryz.f8.params.toList++(OpenSpec.ofChange Rows.validSameSpec).bare.plain.varTypes Tryz.prog) (ds++gs)).all (·≤reachBytes)=true) (hlaid:laidMetH Tryz.prog Rows.validSameRow.laid W) (hshape:W.ShapedOpen Tryz.prog) :
 Calls Tryz.prog 8 args W fun e W'=>∃v,e = .returned v∧Rows.validSameSpec.post enc Tryz.prog Tryz.f8 false true false false W args v W':=by
 have hW':=hW;obtain ⟨p,q,hA,hV,rfl,_,_⟩:=hW;obtain ⟨rfl,rfl⟩:=trodVars_none hV;rw [Tryz.params8] at hA hval hsz;obtain ⟨v0,vs0,d0,ds0,p0,q0,hargs,rfl,rfl,h0,r0⟩:=trodAll_cons hA;obtain ⟨v1,vs1,d1,ds1,p1,q1,rfl,rfl,rfl,h1,r1⟩:=trodAll_cons r0;obtain ⟨v2,vs2,d2,ds2,p2,q2,rfl,rfl,rfl,h2,r2⟩:=trodAll_cons r1;obtain ⟨rfl,rfl,rfl⟩:=trodAll_nil r2;obtain rfl:args = #[v0,v1,v2]:=by cases args;simp_all
 obtain ⟨x0,hx0,lb0⟩:=argSc (hval 0 25 v0 rfl rfl) h0 (fits_of hsz (j:=0) rfl rfl);obtain ⟨x1,hx1,lb1⟩:=argSc (hval 1 25 v1 rfl rfl) h1 (fits_of hsz (j:=1) rfl rfl);obtain ⟨x2,hx2,lb2⟩:=argN (hval 2 48 v2 rfl rfl) h2 (fits_of hsz (j:=2) rfl rfl);refine (calls_of (Gl:=tab2) (v8 x0 x1 x2 lb0 lb1 lb2) W [v0,v1,v2] (tab2_of hlaid (by simp [Rows.validSameRow]) (by simp [Rows.validSameRow]) (by simp [Rows.validSameRow]) hshape) rfl fun j x c hx hc=>?_).mono fun e' W' ⟨he',hb'⟩=>?_
 ·match j,hx,hc with
  |0,hx,hc=>simp at hx hc;subst hx hc;exact hx0
  |1,hx,hc=>simp at hx hc;subst hx hc;exact hx1
  |2,hx,hc=>simp at hx hc;subst hx hc;exact hx2
 ·subst he';refine ⟨_,rfl,post_true rfl hW' (fun t ht n=>?_) hb' (by kernel_rfl) Tryz.underlying4 rfl⟩;rw [Tryz.params8] at ht;simp at ht;rcases ht with rfl|rfl
  ·exact againSc n
  ·exact again79 n
theorem validSame_reads (os:Os){H:Type}(enc:TypeId × Value→H):∃places,DataW.whole enc Tryz.prog ((World.laidAll Tryz.prog os Rows.validSameRow.laid).forCall (fun _ _=>0) ⟨#[],#[.agg #[.slice none 0 0,.slice none 0 0],.agg #[.slice none 0 0,.slice none 0 0],.agg #[.string ⟨#[]⟩,.string ⟨#[]⟩,.slice none 0 0,.slice none 0 0,.slice none 0 0]],[]⟩).memory Tryz.f8.params.toList Rows.validSameSpec.vars false
 #[Value.agg #[.slice none 0 0,.slice none 0 0],.agg #[.slice none 0 0,.slice none 0 0],.agg #[.string ⟨#[]⟩,.string ⟨#[]⟩,.slice none 0 0,.slice none 0 0,.slice none 0 0]].toList 8=some ([.agg [.nil,.nil],.agg [.nil,.nil],.agg [.lit (.string []),.lit (.string []),.nil,.nil,.nil]],[],places):=
 ⟨[],by kernel_rfl⟩
set_option maxRecDepth 100000 in
theorem validSame_lifted (os:Os)(started:os.Started)(H:Type)(enc:TypeId × Value→H)(F:Stop.Interp) :
 ReturnsInHanded {} Tryz.checked os 8 .any ((OpenSpec.ofChange Rows.validSameSpec).preRow enc Tryz.prog Tryz.f8 Rows.validSameRow.domain false Rows.validSameRow.laid) (((OpenSpec.ofChange Rows.validSameSpec).at F).post enc Tryz.prog Tryz.f8 false true false false):=by
 obtain ⟨places,hx⟩:=validSame_reads os enc;refine returnsInHanded_of_row (C:=Tryz.checked) (s:=OpenSpec.ofChange Rows.validSameSpec) ownKnobs7 started (by kernel_rfl) Tryz.func8
  (witness_row_at (enc:=enc) (C:=Tryz.checked) false (World.laidAll Tryz.prog os Rows.validSameRow.laid) #[.agg #[.slice none 0 0,.slice none 0 0],.agg #[.slice none 0 0,.slice none 0 0],.agg #[.string ⟨#[]⟩,.string ⟨#[]⟩,.slice none 0 0,.slice none 0 0,.slice none 0 0]] (World.laidAll_os _ _ _) (by kernel_rfl) (by kernel_rfl) (by kernel_rfl)
    (OpenSpec.preRow_of_cond 8 hx (by kernel_rfl) (fun k hk=>by cases hk) (by kernel_rfl) (laidMet_laidAll _ (by kernel_rfl) (by kernel_rfl)))) ?_
 intro W base args ds gs before hval hW _ _ hsz hlaid hshape _;exact validSame_contract H enc W base args ds gs before hval hW hsz hlaid hshape
set_option maxRecDepth 20000 in
set_option maxHeartbeats 4000000 in
theorem validSame_closed:joinedFacts Tryz.prog 8 Tryz.f8 (OpenSpec.ofChange Rows.validSameSpec).bare Rows.validSameRow=true:=by
 simp only [joinedFacts,Bool.and_eq_true]
 and_intros<;>(as_aux_lemma=>kernel_rfl)
theorem validSame_said:Rows.ValidSameSaid:=
 OpenClaim.holds_of_cond 8 Tryz.f8 rfl rfl rfl rfl rfl rfl rfl ⟨rfl,rfl,rfl,rfl,rfl⟩ rfl rfl rfl rfl rfl (by kernel_rfl) Tryz.func8 validSame_closed
  (of_decide_eq_true (by kernel_rfl)) (by unfold Func.isWrapper;first|(rw [if_pos (by decide +kernel)];kernel_rfl)|(rw [if_neg (by decide +kernel)];exact ⟨rfl,rfl⟩))
  (fun os started H enc _ F=>by rw [OpenClaim.pre_eq_preRow];exact validSame_lifted os started H enc F)
theorem validSame_plain (f:FuncId)(fn:Func)(hf:Tryz.pinned.checked.prog.funcNamed "diptych/diptychlaw9.ValidSame" = some f)(hfn:Tryz.pinned.checked.prog.funcs[f]?=some fn) :
 false=Tryz.pinned.checked.prog.looks []∧∀(j:Nat) t,fn.params[j]?=some t→Tryz.pinned.checked.prog.wantsStandIn t=false:=by
 obtain rfl:f=8:=Option.some.inj ((show Tryz.prog.funcNamed "diptych/diptychlaw9.ValidSame" = some 8 by kernel_rfl).symm.trans hf) |>.symm;obtain rfl:fn=Tryz.f8:=(Option.some.inj (Tryz.func8.symm.trans hfn)).symm;refine ⟨by kernel_rfl,fun j t ht=>?_⟩;rw [Tryz.params8] at ht;have hm:t∈[25,25,48]:=by simpa using Array.mem_of_getElem? ht
 have hall:([25,25,48].all fun u=>!Tryz.prog.wantsStandIn u)=true:=by kernel_rfl
 exact (show Tryz.prog.wantsStandIn t=false by simpa using List.all_eq_true.1 hall t hm)
theorem validSame_card:Rows.ValidSameCardSaid:=
 Claim7.holds_tied_plain_at .later [] _ _ _ _ validSame_said (fun _ h=>by cases h) (by kernel_rfl) (fun _ h=>by cases h) validSame_row_tie rfl ⟨rfl,rfl⟩ (by kernel_rfl) rfl validSame_plain (by kernel_rfl)
end Go.Proofs.YtkjfaanenmhlbaaGreatDoor
