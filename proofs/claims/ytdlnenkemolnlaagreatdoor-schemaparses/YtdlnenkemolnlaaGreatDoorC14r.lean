/-
  THE LAW SchemaParses: whatever the input, it answers true, and each argument reads as it did: the card, out of the walk.
-/
import Derived.Test.YtdlnenkemolnlaaGreatDoorB5
import Derived.Test.YtdlnenkemolnlaaGreatDoorB6
import Derived.Test.YtdlnenkemolnlaaGreatDoorS25
set_option linter.unusedVariables false
set_option linter.unusedSimpArgs false
namespace Go.Proofs.YtdlnenkemolnlaaGreatDoor
open Go Go.Abs Go.RowKit Go.ChangeShapes Go.WideShapes Go.Proofs.D
set_option maxRecDepth 20000 in
theorem schemaParses_contract (H : Type) (enc : TypeId × Value → H) (W : World) (base : Nat) (args : Array Value) (ds gs : List (DataW H)) (before : List MemPlace)
    (hval : ∀ (j : Nat) t v, Tryz.f5.params[j]? = some t → args[j]? = some v → Value.okWide Tryz.prog W .any base t v)
    (hW : DataW.Whole enc Tryz.prog Tryz.f5.params.toList Rows.schemaParsesSpec.vars false W args.toList ds gs before)
    (hsz : (DataW.weightsEach Tryz.prog (Tryz.f5.params.toList ++ (OpenSpec.ofChange Rows.schemaParsesSpec).bare.plain.varTypes Tryz.prog) (ds ++ gs)).all (· ≤ reachBytes) = true) (hlaid : laidMetH Tryz.prog Rows.schemaParsesRow.laid W) (hshape : W.ShapedOpen Tryz.prog) :
    Calls Tryz.prog 5 args W fun e W' => ∃ v, e = .returned v ∧ Rows.schemaParsesSpec.post enc Tryz.prog Tryz.f5 false true false false W args v W' := by
  have hW' := hW
  obtain ⟨p, q, hA, hV, rfl, _, _⟩ := hW
  obtain ⟨rfl, rfl⟩ := trodVars_none hV
  rw [Tryz.params5] at hA hval hsz
  obtain ⟨v0, vs0, d0, ds0, p0, q0, hargs, rfl, rfl, h0, r0⟩ := trodAll_cons hA
  obtain ⟨rfl, rfl, rfl⟩ := trodAll_nil r0
  obtain rfl : args = #[v0] := by cases args; simp_all
  obtain ⟨x0, hx0⟩ := argT (hval 0 9 v0 rfl rfl) h0
  refine (calls_of (g5 x0) W [v0] (tabs_of hlaid hshape) rfl fun j x c hx hc => ?_).mono fun e' W' ⟨he', hb'⟩ => ?_
  · match j, hx, hc with
    | 0, hx, hc => simp at hx hc; subst hx hc; exact hx0
  · subst he'
    refine ⟨_, rfl, post_true rfl hW' (fun t ht n => ?_) hb' (by kernel_rfl) Tryz.underlying4 rfl⟩
    rw [Tryz.params5] at ht
    simp at ht
    subst ht
    exact again9 n
theorem schemaParses_reads (os : Os) {H : Type} (enc : TypeId × Value → H) : ∃ places, DataW.whole enc Tryz.prog ((World.laidAll Tryz.prog os Rows.schemaParsesRow.laid).forCall (fun _ _ => 0) ⟨#[], #[.string ⟨#[]⟩], []⟩).memory Tryz.f5.params.toList Rows.schemaParsesSpec.vars false
    #[Value.string ⟨#[]⟩].toList 8 = some ([.lit (.string [])], [], places) :=
  ⟨[], by kernel_rfl⟩
set_option maxRecDepth 100000 in
theorem schemaParses_lifted (os : Os) (started : os.Started) (H : Type) (enc : TypeId × Value → H) (F : Stop.Interp) :
    ReturnsInHanded {} Tryz.checked os 5 .any ((OpenSpec.ofChange Rows.schemaParsesSpec).preRow enc Tryz.prog Tryz.f5 Rows.schemaParsesRow.domain false Rows.schemaParsesRow.laid) (((OpenSpec.ofChange Rows.schemaParsesSpec).at F).post enc Tryz.prog Tryz.f5 false true false false) := by
  obtain ⟨places, hx⟩ := schemaParses_reads os enc
  refine returnsInHanded_of_row (C := Tryz.checked) (s := OpenSpec.ofChange Rows.schemaParsesSpec) ownKnobsB started (by kernel_rfl) Tryz.func5
    (witness_row_at (enc := enc) (C := Tryz.checked) false (World.laidAll Tryz.prog os Rows.schemaParsesRow.laid) #[.string ⟨#[]⟩] (World.laidAll_os _ _ _) (by kernel_rfl) (by kernel_rfl) (by kernel_rfl)
      (OpenSpec.preRow_of_cond 8 hx (by kernel_rfl) (fun k hk => by cases hk) (by kernel_rfl) (laidMet_laidAll _ (by kernel_rfl) (by kernel_rfl)))) ?_
  intro W base args ds gs before hval hW _ _ hsz hlaid hshape _
  exact schemaParses_contract H enc W base args ds gs before hval hW hsz hlaid hshape
theorem schemaParses_said : Rows.SchemaParsesSaid :=
  OpenClaim.holds_of_cond 5 Tryz.f5 rfl rfl rfl rfl rfl rfl rfl ⟨rfl, rfl, rfl, rfl, rfl⟩ rfl rfl rfl rfl rfl (by kernel_rfl) Tryz.func5 (by kernel_rfl)
    (of_decide_eq_true (by kernel_rfl)) (by unfold Func.isWrapper; first | (rw [if_pos (by decide +kernel)]; kernel_rfl) | (rw [if_neg (by decide +kernel)]; exact ⟨rfl, rfl⟩))
    (fun os started H enc _ F => by rw [OpenClaim.pre_eq_preRow]; exact schemaParses_lifted os started H enc F)
theorem schemaParses_plain (f : FuncId) (fn : Func) (hf : Tryz.pinned.checked.prog.funcNamed "diptych/diptychlaw8.SchemaParses" = some f) (hfn : Tryz.pinned.checked.prog.funcs[f]? = some fn) :
    false = Tryz.pinned.checked.prog.looks [] ∧ ∀ (j : Nat) t, fn.params[j]? = some t → Tryz.pinned.checked.prog.wantsStandIn t = false := by
  obtain rfl : f = 5 := Option.some.inj ((show Tryz.prog.funcNamed "diptych/diptychlaw8.SchemaParses" = some 5 by kernel_rfl).symm.trans hf) |>.symm
  obtain rfl : fn = Tryz.f5 := (Option.some.inj (Tryz.func5.symm.trans hfn)).symm
  refine ⟨by kernel_rfl, fun j t ht => ?_⟩
  rw [Tryz.params5] at ht
  have hm : t ∈ [9] := by simpa using Array.mem_of_getElem? ht
  have hall : ([9].all fun u => !Tryz.prog.wantsStandIn u) = true := by kernel_rfl
  exact (show Tryz.prog.wantsStandIn t = false by simpa using List.all_eq_true.1 hall t hm)
/-- The card. -/
theorem schemaParses_card : Rows.SchemaParsesCardSaid :=
  Claim7.holds_tied_plain_at .later [] _ _ _ _ schemaParses_said (fun _ h => by cases h) (by kernel_rfl) (fun _ h => by cases h) schemaParses_row_tie rfl ⟨rfl, rfl⟩ (by kernel_rfl) rfl schemaParses_plain (by kernel_rfl)
end Go.Proofs.YtdlnenkemolnlaaGreatDoor
