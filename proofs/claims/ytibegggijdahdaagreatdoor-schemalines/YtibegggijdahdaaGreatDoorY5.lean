/-
  THE LAW SchemaLines: whatever the input, it answers true, and each argument reads as it did: the card, out of the walk.
-/
import Derived.Test.YtibegggijdahdaaGreatDoorR7
import Derived.Test.YtibegggijdahdaaGreatDoorB8
import Derived.Test.YtibegggijdahdaaGreatDoorN8
set_option linter.unusedVariables false
set_option linter.unusedSimpArgs false
namespace Go.Proofs.YtibegggijdahdaaGreatDoor
open Go Go.Abs Go.RowKit Go.ChangeShapes Go.WideShapes Go.Proofs.D
set_option maxRecDepth 20000 in
theorem schemaLines_contract (H:Type)(enc:TypeId × Value→H)(W:World)(base:Nat)(args:Array Value)(ds gs:List (DataW H))(before:List MemPlace)
 (hval:∀(j:Nat) t v,Tryz.f7.params[j]?=some t→args[j]?=some v→Value.okWide Tryz.prog W .any base t v)
 (hW:DataW.Whole enc Tryz.prog Tryz.f7.params.toList Rows.schemaLinesSpec.vars false W args.toList ds gs before)
 (hsz:(DataW.weightsEach Tryz.prog (Tryz.f7.params.toList++(OpenSpec.ofChange Rows.schemaLinesSpec).bare.plain.varTypes Tryz.prog) (ds++gs)).all (·≤reachBytes)=true) (hlaid:laidMetH Tryz.prog Rows.schemaLinesRow.laid W) (hshape:W.ShapedOpen Tryz.prog) :
 Calls Tryz.prog 7 args W fun e W'=>∃v,e = .returned v∧Rows.schemaLinesSpec.post enc Tryz.prog Tryz.f7 false true false false W args v W':=by
 have hW':=hW;obtain ⟨p,q,hA,hV,rfl,_,_⟩:=hW;obtain ⟨rfl,rfl⟩:=trodVars_none hV;rw [Tryz.params7] at hA hval hsz;obtain ⟨v0,vs0,d0,ds0,p0,q0,hargs,rfl,rfl,h0,r0⟩:=trodAll_cons hA;obtain ⟨rfl,rfl,rfl⟩:=trodAll_nil r0;obtain rfl:args = #[v0]:=by cases args;simp_all
 obtain ⟨x0,hx0,lb0⟩:=argSc (hval 0 25 v0 rfl rfl) h0 (fits_of hsz (j:=0) rfl rfl);refine (calls_of (Gl:=tab2) (h14 x0 lb0) W [v0] (tab2_of hlaid (by simp [Rows.schemaLinesRow]) (by simp [Rows.schemaLinesRow]) (by simp [Rows.schemaLinesRow]) hshape) rfl fun j x c hx hc=>?_).mono fun e' W' ⟨he',hb'⟩=>?_
 ·match j,hx,hc with
  |0,hx,hc=>simp at hx hc;subst hx hc;exact hx0
 ·subst he';refine ⟨_,rfl,post_true rfl hW' (fun t ht n=>?_) hb' (by kernel_rfl) Tryz.underlying4 rfl⟩;rw [Tryz.params7] at ht;simp at ht;subst ht;exact againSc n
theorem schemaLines_reads (os:Os){H:Type}(enc:TypeId × Value→H):∃places,DataW.whole enc Tryz.prog ((World.laidAll Tryz.prog os Rows.schemaLinesRow.laid).forCall (fun _ _=>0) ⟨#[],#[.agg #[.slice none 0 0,.slice none 0 0]],[]⟩).memory Tryz.f7.params.toList Rows.schemaLinesSpec.vars false
 #[Value.agg #[.slice none 0 0,.slice none 0 0]].toList 8=some ([.agg [.nil,.nil]],[],places):=
 ⟨[],by kernel_rfl⟩
set_option maxRecDepth 100000 in
theorem schemaLines_lifted (os:Os)(started:os.Started)(H:Type)(enc:TypeId × Value→H)(F:Stop.Interp) :
 ReturnsInHanded {} Tryz.checked os 7 .any ((OpenSpec.ofChange Rows.schemaLinesSpec).preRow enc Tryz.prog Tryz.f7 Rows.schemaLinesRow.domain false Rows.schemaLinesRow.laid) (((OpenSpec.ofChange Rows.schemaLinesSpec).at F).post enc Tryz.prog Tryz.f7 false true false false):=by
 obtain ⟨places,hx⟩:=schemaLines_reads os enc;refine returnsInHanded_of_row (C:=Tryz.checked) (s:=OpenSpec.ofChange Rows.schemaLinesSpec) ownKnobs7 started (by kernel_rfl) Tryz.func7
  (witness_row_at (enc:=enc) (C:=Tryz.checked) false (World.laidAll Tryz.prog os Rows.schemaLinesRow.laid) #[.agg #[.slice none 0 0,.slice none 0 0]] (World.laidAll_os _ _ _) (by kernel_rfl) (by kernel_rfl) (by kernel_rfl)
    (OpenSpec.preRow_of_cond 8 hx (by kernel_rfl) (fun k hk=>by cases hk) (by kernel_rfl) (laidMet_laidAll _ (by kernel_rfl) (by kernel_rfl)))) ?_
 intro W base args ds gs before hval hW _ _ hsz hlaid hshape _;exact schemaLines_contract H enc W base args ds gs before hval hW hsz hlaid hshape
set_option maxRecDepth 20000 in
set_option maxHeartbeats 4000000 in
theorem schemaLines_closed:joinedFacts Tryz.prog 7 Tryz.f7 (OpenSpec.ofChange Rows.schemaLinesSpec).bare Rows.schemaLinesRow=true:=by
 simp only [joinedFacts,Bool.and_eq_true]
 and_intros<;>(as_aux_lemma=>kernel_rfl)
theorem schemaLines_said:Rows.SchemaLinesSaid:=
 OpenClaim.holds_of_cond 7 Tryz.f7 rfl rfl rfl rfl rfl rfl rfl ⟨rfl,rfl,rfl,rfl,rfl⟩ rfl rfl rfl rfl rfl (by kernel_rfl) Tryz.func7 schemaLines_closed
  (of_decide_eq_true (by kernel_rfl)) (by unfold Func.isWrapper;first|(rw [if_pos (by decide +kernel)];kernel_rfl)|(rw [if_neg (by decide +kernel)];exact ⟨rfl,rfl⟩))
  (fun os started H enc _ F=>by rw [OpenClaim.pre_eq_preRow];exact schemaLines_lifted os started H enc F)
theorem schemaLines_plain (f:FuncId)(fn:Func)(hf:Tryz.pinned.checked.prog.funcNamed "diptych/diptychlaw8.SchemaLines" = some f)(hfn:Tryz.pinned.checked.prog.funcs[f]?=some fn) :
 false=Tryz.pinned.checked.prog.looks []∧∀(j:Nat) t,fn.params[j]?=some t→Tryz.pinned.checked.prog.wantsStandIn t=false:=by
 obtain rfl:f=7:=Option.some.inj ((show Tryz.prog.funcNamed "diptych/diptychlaw8.SchemaLines" = some 7 by kernel_rfl).symm.trans hf) |>.symm;obtain rfl:fn=Tryz.f7:=(Option.some.inj (Tryz.func7.symm.trans hfn)).symm;refine ⟨by kernel_rfl,fun j t ht=>?_⟩;rw [Tryz.params7] at ht;have hm:t∈[25]:=by simpa using Array.mem_of_getElem? ht
 have hall:([25].all fun u=>!Tryz.prog.wantsStandIn u)=true:=by kernel_rfl
 exact (show Tryz.prog.wantsStandIn t=false by simpa using List.all_eq_true.1 hall t hm)
theorem schemaLines_card:Rows.SchemaLinesCardSaid:=
 Claim7.holds_tied_plain_at .later [] _ _ _ _ schemaLines_said (fun _ h=>by cases h) (by kernel_rfl) (fun _ h=>by cases h) schemaLines_row_tie rfl ⟨rfl,rfl⟩ (by kernel_rfl) rfl schemaLines_plain (by kernel_rfl)
end Go.Proofs.YtibegggijdahdaaGreatDoor
