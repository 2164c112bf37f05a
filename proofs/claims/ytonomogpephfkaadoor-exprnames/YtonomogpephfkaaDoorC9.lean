/-
  THE LAW ExprNames: whatever the input, it answers true, and each argument reads as it did: the card, out of the walk.
-/
import Derived.Test.YtonomogpephfkaaDoorB2
import Derived.Test.YtonomogpephfkaaDoorD30
set_option linter.unusedVariables false
set_option linter.unusedSimpArgs false
namespace Go.Proofs.YtonomogpephfkaaDoor
open Go Go.Abs Go.RowKit Go.ChangeShapes Go.WideShapes Go.Proofs.D
set_option maxRecDepth 20000 in
theorem exprNames_contract (H : Type) (enc : TypeId × Value → H) (W : World) (base : Nat) (args : Array Value) (ds gs : List (DataW H)) (before : List MemPlace)
    (hval : ∀ (j : Nat) t v, Tryd.f9.params[j]? = some t → args[j]? = some v → Value.okWide Tryd.prog W .any base t v)
    (hW : DataW.Whole enc Tryd.prog Tryd.f9.params.toList Rows.exprNamesSpec.vars false W args.toList ds gs before)
    (hsz : (DataW.weightsEach Tryd.prog (Tryd.f9.params.toList ++ (OpenSpec.ofChange Rows.exprNamesSpec).bare.plain.varTypes Tryd.prog) (ds ++ gs)).all (· ≤ reachBytes) = true) :
    Calls Tryd.prog 9 args W fun e W' => ∃ v, e = .returned v ∧ Rows.exprNamesSpec.post enc Tryd.prog Tryd.f9 false true false false W args v W' := by
  have hW' := hW
  obtain ⟨p, q, hA, hV, rfl, _, _⟩ := hW
  obtain ⟨rfl, rfl⟩ := trodVars_none hV
  rw [Tryd.params9] at hA hval hsz
  obtain ⟨v0, vs0, d0, ds0, p0, q0, hargs, rfl, rfl, h0, r0⟩ := trodAll_cons hA
  obtain ⟨v1, vs1, d1, ds1, p1, q1, rfl, rfl, rfl, h1, r1⟩ := trodAll_cons r0
  obtain ⟨rfl, rfl, rfl⟩ := trodAll_nil r1
  obtain rfl : args = #[v0, v1] := by cases args; simp_all
  obtain ⟨x0, hs0, hx0⟩ := arg25 h0
  obtain ⟨x1, hx1, hl1, hm1⟩ := arg42 (hval 1 42 v1 rfl rfl) h1
  have lb1 := len_bound hsz (j := 1) rfl rfl hl1
  refine (calls_of (f9 granted x0 hs0 x1 lb1) W [v0, v1] trivial rfl fun j x c hx hc => ?_).mono fun e' W' ⟨he', hb'⟩ => ?_
  · match j, hx, hc with
    | 0, hx, hc => simp at hx hc; subst hx hc; exact hx0
    | 1, hx, hc => simp at hx hc; subst hx hc; exact hx1
  · subst he'
    refine ⟨_, rfl, post_true rfl hW' (fun t ht n => ?_) hb' (by kernel_rfl) Tryd.underlying4 rfl⟩
    rw [Tryd.params9] at ht
    simp at ht
    rcases ht with rfl | rfl
    · exact again25 n
    · exact again42 n
theorem exprNames_reads (os : Os) {H : Type} (enc : TypeId × Value → H) : ∃ places, DataW.whole enc Tryd.prog ((World.laidAll Tryd.prog os Rows.exprNamesRow.laid).forCall (fun _ _ => 0) ⟨#[], #[.agg #[.int .u8 0, .string ⟨#[]⟩, .slice none 0 0], .slice none 0 0], []⟩).memory Tryd.f9.params.toList Rows.exprNamesSpec.vars false
    #[Value.agg #[.int .u8 0, .string ⟨#[]⟩, .slice none 0 0], .slice none 0 0].toList 8 = some ([.agg [.lit (.int .u8 0), .lit (.string []), .nil], .nil], [], places) :=
  ⟨[], by kernel_rfl⟩
set_option maxRecDepth 100000 in
theorem exprNames_lifted (os : Os) (started : os.Started) (H : Type) (enc : TypeId × Value → H) (F : Stop.Interp) :
    ReturnsInHanded {} Tryd.checked os 9 .any ((OpenSpec.ofChange Rows.exprNamesSpec).preRow enc Tryd.prog Tryd.f9 Rows.exprNamesRow.domain false Rows.exprNamesRow.laid) (((OpenSpec.ofChange Rows.exprNamesSpec).at F).post enc Tryd.prog Tryd.f9 false true false false) := by
  obtain ⟨places, hx⟩ := exprNames_reads os enc
  refine returnsInHanded_of_row (C := Tryd.checked) (s := OpenSpec.ofChange Rows.exprNamesSpec) ownKnobs started (by kernel_rfl) Tryd.func9
    (witness_row_at (enc := enc) (C := Tryd.checked) false (World.laidAll Tryd.prog os Rows.exprNamesRow.laid) #[.agg #[.int .u8 0, .string ⟨#[]⟩, .slice none 0 0], .slice none 0 0] (World.laidAll_os _ _ _) (by kernel_rfl) (by kernel_rfl) (by kernel_rfl)
      (OpenSpec.preRow_of_cond 8 hx (by kernel_rfl) (fun k hk => by cases hk) (by kernel_rfl) (laidMet_laidAll _ (by kernel_rfl) (by kernel_rfl)))) ?_
  intro W base args ds gs before hval hW _ _ hsz _ _ _
  exact exprNames_contract H enc W base args ds gs before hval hW hsz
theorem exprNames_said : Rows.ExprNamesSaid :=
  OpenClaim.holds_of_cond 9 Tryd.f9 rfl rfl rfl rfl rfl rfl rfl ⟨rfl, rfl, rfl, rfl, rfl⟩ rfl rfl rfl rfl rfl (by kernel_rfl) Tryd.func9 (by kernel_rfl)
    (of_decide_eq_true (by kernel_rfl)) (by unfold Func.isWrapper; first | (rw [if_pos (by decide +kernel)]; kernel_rfl) | (rw [if_neg (by decide +kernel)]; exact ⟨rfl, rfl⟩))
    (fun os started H enc _ F => by rw [OpenClaim.pre_eq_preRow]; exact exprNames_lifted os started H enc F)
theorem exprNames_plain (f : FuncId) (fn : Func) (hf : Tryd.pinned.checked.prog.funcNamed "diptych/diptychlaw6.ExprNames" = some f) (hfn : Tryd.pinned.checked.prog.funcs[f]? = some fn) :
    false = Tryd.pinned.checked.prog.looks [] ∧ ∀ (j : Nat) t, fn.params[j]? = some t → Tryd.pinned.checked.prog.wantsStandIn t = false := by
  obtain rfl : f = 9 := Option.some.inj ((show Tryd.prog.funcNamed "diptych/diptychlaw6.ExprNames" = some 9 by kernel_rfl).symm.trans hf) |>.symm
  obtain rfl : fn = Tryd.f9 := (Option.some.inj (Tryd.func9.symm.trans hfn)).symm
  refine ⟨by kernel_rfl, fun j t ht => ?_⟩
  rw [Tryd.params9] at ht
  have hm : t ∈ [25, 42] := by simpa using Array.mem_of_getElem? ht
  have hall : ([25, 42].all fun u => !Tryd.prog.wantsStandIn u) = true := by kernel_rfl
  exact (show Tryd.prog.wantsStandIn t = false by simpa using List.all_eq_true.1 hall t hm)
/-- The card. -/
theorem exprNames_card : Rows.ExprNamesCardSaid :=
  Claim7.holds_tied_plain_at .later [] _ _ _ _ exprNames_said (fun _ h => by cases h) (by kernel_rfl) (fun _ h => by cases h) exprNames_row_tie rfl ⟨rfl, rfl⟩ (by kernel_rfl) rfl exprNames_plain (by kernel_rfl)
end Go.Proofs.YtonomogpephfkaaDoor
