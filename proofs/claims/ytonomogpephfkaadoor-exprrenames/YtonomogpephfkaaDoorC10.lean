/-
  THE LAW ExprRenames: whatever the input, it answers true, and each argument reads as it did: the card, out of the walk.
-/
import Derived.Test.YtonomogpephfkaaDoorB2
import Derived.Test.YtonomogpephfkaaDoorD31
set_option linter.unusedVariables false
set_option linter.unusedSimpArgs false
namespace Go.Proofs.YtonomogpephfkaaDoor
open Go Go.Abs Go.RowKit Go.ChangeShapes Go.WideShapes Go.Proofs.D
set_option maxRecDepth 20000 in
theorem exprRenames_contract (H : Type) (enc : TypeId × Value → H) (W : World) (base : Nat) (args : Array Value) (ds gs : List (DataW H)) (before : List MemPlace)
    (hval : ∀ (j : Nat) t v, Tryd.f10.params[j]? = some t → args[j]? = some v → Value.okWide Tryd.prog W .any base t v)
    (hW : DataW.Whole enc Tryd.prog Tryd.f10.params.toList Rows.exprRenamesSpec.vars false W args.toList ds gs before)
    (hsz : (DataW.weightsEach Tryd.prog (Tryd.f10.params.toList ++ (OpenSpec.ofChange Rows.exprRenamesSpec).bare.plain.varTypes Tryd.prog) (ds ++ gs)).all (· ≤ reachBytes) = true) :
    Calls Tryd.prog 10 args W fun e W' => ∃ v, e = .returned v ∧ Rows.exprRenamesSpec.post enc Tryd.prog Tryd.f10 false true false false W args v W' := by
  have hW' := hW
  obtain ⟨p, q, hA, hV, rfl, _, _⟩ := hW
  obtain ⟨rfl, rfl⟩ := trodVars_none hV
  rw [Tryd.params10] at hA hval hsz
  obtain ⟨v0, vs0, d0, ds0, p0, q0, hargs, rfl, rfl, h0, r0⟩ := trodAll_cons hA
  obtain ⟨v1, vs1, d1, ds1, p1, q1, rfl, rfl, rfl, h1, r1⟩ := trodAll_cons r0
  obtain ⟨v2, vs2, d2, ds2, p2, q2, rfl, rfl, rfl, h2, r2⟩ := trodAll_cons r1
  obtain ⟨v3, vs3, d3, ds3, p3, q3, rfl, rfl, rfl, h3, r3⟩ := trodAll_cons r2
  obtain ⟨rfl, rfl, rfl⟩ := trodAll_nil r3
  obtain rfl : args = #[v0, v1, v2, v3] := by cases args; simp_all
  obtain ⟨x0, hs0, hx0⟩ := arg25 h0
  obtain ⟨x1, hx1, lb1⟩ := argS hsz (j := 1) rfl rfl (hval 1 9 v1 rfl rfl) h1
  obtain ⟨x2, hx2, lb2⟩ := argS hsz (j := 2) rfl rfl (hval 2 9 v2 rfl rfl) h2
  obtain ⟨x3, hx3, hl3, hm3⟩ := arg42 (hval 3 42 v3 rfl rfl) h3
  have lb3 := len_bound hsz (j := 3) rfl rfl hl3
  refine (calls_of (f10 granted x0 hs0 x1 x2 x3 lb1 lb2 lb3) W [v0, v1, v2, v3] trivial rfl fun j x c hx hc => ?_).mono fun e' W' ⟨he', hb'⟩ => ?_
  · match j, hx, hc with
    | 0, hx, hc => simp at hx hc; subst hx hc; exact hx0
    | 1, hx, hc => simp at hx hc; subst hx hc; exact hx1
    | 2, hx, hc => simp at hx hc; subst hx hc; exact hx2
    | 3, hx, hc => simp at hx hc; subst hx hc; exact hx3
  · subst he'
    refine ⟨_, rfl, post_true rfl hW' (fun t ht n => ?_) hb' (by kernel_rfl) Tryd.underlying4 rfl⟩
    rw [Tryd.params10] at ht
    simp at ht
    rcases ht with rfl | rfl | rfl
    · exact again25 n
    · exact again9 n
    · exact again42 n
theorem exprRenames_reads (os : Os) {H : Type} (enc : TypeId × Value → H) : ∃ places, DataW.whole enc Tryd.prog ((World.laidAll Tryd.prog os Rows.exprRenamesRow.laid).forCall (fun _ _ => 0) ⟨#[], #[.agg #[.int .u8 0, .string ⟨#[]⟩, .slice none 0 0], .string ⟨#[]⟩, .string ⟨#[]⟩, .slice none 0 0], []⟩).memory Tryd.f10.params.toList Rows.exprRenamesSpec.vars false
    #[Value.agg #[.int .u8 0, .string ⟨#[]⟩, .slice none 0 0], .string ⟨#[]⟩, .string ⟨#[]⟩, .slice none 0 0].toList 8 = some ([.agg [.lit (.int .u8 0), .lit (.string []), .nil], .lit (.string []), .lit (.string []), .nil], [], places) :=
  ⟨[], by kernel_rfl⟩
set_option maxRecDepth 100000 in
theorem exprRenames_lifted (os : Os) (started : os.Started) (H : Type) (enc : TypeId × Value → H) (F : Stop.Interp) :
    ReturnsInHanded {} Tryd.checked os 10 .any ((OpenSpec.ofChange Rows.exprRenamesSpec).preRow enc Tryd.prog Tryd.f10 Rows.exprRenamesRow.domain false Rows.exprRenamesRow.laid) (((OpenSpec.ofChange Rows.exprRenamesSpec).at F).post enc Tryd.prog Tryd.f10 false true false false) := by
  obtain ⟨places, hx⟩ := exprRenames_reads os enc
  refine returnsInHanded_of_row (C := Tryd.checked) (s := OpenSpec.ofChange Rows.exprRenamesSpec) ownKnobs started (by kernel_rfl) Tryd.func10
    (witness_row_at (enc := enc) (C := Tryd.checked) false (World.laidAll Tryd.prog os Rows.exprRenamesRow.laid) #[.agg #[.int .u8 0, .string ⟨#[]⟩, .slice none 0 0], .string ⟨#[]⟩, .string ⟨#[]⟩, .slice none 0 0] (World.laidAll_os _ _ _) (by kernel_rfl) (by kernel_rfl) (by kernel_rfl)
      (OpenSpec.preRow_of_cond 8 hx (by kernel_rfl) (fun k hk => by cases hk) (by kernel_rfl) (laidMet_laidAll _ (by kernel_rfl) (by kernel_rfl)))) ?_
  intro W base args ds gs before hval hW _ _ hsz _ _ _
  exact exprRenames_contract H enc W base args ds gs before hval hW hsz
theorem exprRenames_said : Rows.ExprRenamesSaid :=
  OpenClaim.holds_of_cond 10 Tryd.f10 rfl rfl rfl rfl rfl rfl rfl ⟨rfl, rfl, rfl, rfl, rfl⟩ rfl rfl rfl rfl rfl (by kernel_rfl) Tryd.func10 (by kernel_rfl)
    (of_decide_eq_true (by kernel_rfl)) (by unfold Func.isWrapper; first | (rw [if_pos (by decide +kernel)]; kernel_rfl) | (rw [if_neg (by decide +kernel)]; exact ⟨rfl, rfl⟩))
    (fun os started H enc _ F => by rw [OpenClaim.pre_eq_preRow]; exact exprRenames_lifted os started H enc F)
theorem exprRenames_plain (f : FuncId) (fn : Func) (hf : Tryd.pinned.checked.prog.funcNamed "diptych/diptychlaw6.ExprRenames" = some f) (hfn : Tryd.pinned.checked.prog.funcs[f]? = some fn) :
    false = Tryd.pinned.checked.prog.looks [] ∧ ∀ (j : Nat) t, fn.params[j]? = some t → Tryd.pinned.checked.prog.wantsStandIn t = false := by
  obtain rfl : f = 10 := Option.some.inj ((show Tryd.prog.funcNamed "diptych/diptychlaw6.ExprRenames" = some 10 by kernel_rfl).symm.trans hf) |>.symm
  obtain rfl : fn = Tryd.f10 := (Option.some.inj (Tryd.func10.symm.trans hfn)).symm
  refine ⟨by kernel_rfl, fun j t ht => ?_⟩
  rw [Tryd.params10] at ht
  have hm : t ∈ [25, 9, 9, 42] := by simpa using Array.mem_of_getElem? ht
  have hall : ([25, 9, 9, 42].all fun u => !Tryd.prog.wantsStandIn u) = true := by kernel_rfl
  exact (show Tryd.prog.wantsStandIn t = false by simpa using List.all_eq_true.1 hall t hm)
/-- The card. -/
theorem exprRenames_card : Rows.ExprRenamesCardSaid :=
  Claim7.holds_tied_plain_at .later [] _ _ _ _ exprRenames_said (fun _ h => by cases h) (by kernel_rfl) (fun _ h => by cases h) exprRenames_row_tie rfl ⟨rfl, rfl⟩ (by kernel_rfl) rfl exprRenames_plain (by kernel_rfl)
end Go.Proofs.YtonomogpephfkaaDoor
