/-
  THE LAW CompBack: whatever the input, it answers true, and each argument reads as it did: the card, out of the walk.
-/
import Derived.Test.YtonomogpephfkaaDoorB5
import Derived.Test.YtonomogpephfkaaDoorK24
set_option linter.unusedVariables false
set_option linter.unusedSimpArgs false
namespace Go.Proofs.YtonomogpephfkaaDoor
open Go Go.Abs Go.RowKit Go.ChangeShapes Go.WideShapes Go.Proofs.D
set_option maxRecDepth 20000 in
theorem compBack_contract (H : Type) (enc : TypeId × Value → H) (W : World) (base : Nat) (args : Array Value) (ds gs : List (DataW H)) (before : List MemPlace)
    (hval : ∀ (j : Nat) t v, Tryd.f11.params[j]? = some t → args[j]? = some v → Value.okWide Tryd.prog W .any base t v)
    (hW : DataW.Whole enc Tryd.prog Tryd.f11.params.toList Rows.compBackSpec.vars false W args.toList ds gs before)
    (hsz : (DataW.weightsEach Tryd.prog (Tryd.f11.params.toList ++ (OpenSpec.ofChange Rows.compBackSpec).bare.plain.varTypes Tryd.prog) (ds ++ gs)).all (· ≤ reachBytes) = true) (hlaid : laidMetH Tryd.prog Rows.compBackRow.laid W) (hshape : W.ShapedOpen Tryd.prog) :
    Calls Tryd.prog 11 args W fun e W' => ∃ v, e = .returned v ∧ Rows.compBackSpec.post enc Tryd.prog Tryd.f11 false true false false W args v W' := by
  have hW' := hW
  obtain ⟨p, q, hA, hV, rfl, _, _⟩ := hW
  obtain ⟨rfl, rfl⟩ := trodVars_none hV
  rw [Tryd.params11] at hA hval hsz
  obtain ⟨v0, vs0, d0, ds0, p0, q0, hargs, rfl, rfl, h0, r0⟩ := trodAll_cons hA
  obtain ⟨v1, vs1, d1, ds1, p1, q1, rfl, rfl, rfl, h1, r1⟩ := trodAll_cons r0
  obtain ⟨rfl, rfl, rfl⟩ := trodAll_nil r1
  obtain rfl : args = #[v0, v1] := by cases args; simp_all
  obtain ⟨x0, hx0, lb0⟩ := arg47 (hval 0 47 v0 rfl rfl) h0 (fits_of hsz (j := 0) rfl rfl)
  obtain ⟨x1, hx1⟩ := argT (hval 1 9 v1 rfl rfl) h1
  refine (calls_of (f11 x0 x1 lb0) W [v0, v1] (tabs_of hlaid hshape) rfl fun j x c hx hc => ?_).mono fun e' W' ⟨he', hb'⟩ => ?_
  · match j, hx, hc with
    | 0, hx, hc => simp at hx hc; subst hx hc; exact hx0
    | 1, hx, hc => simp at hx hc; subst hx hc; exact hx1
  · subst he'
    refine ⟨_, rfl, post_true rfl hW' (fun t ht n => ?_) hb' (by kernel_rfl) Tryd.underlying4 rfl⟩
    rw [Tryd.params11] at ht
    simp at ht
    rcases ht with rfl | rfl
    · exact again47 n
    · exact again9 n
theorem compBack_reads (os : Os) {H : Type} (enc : TypeId × Value → H) : ∃ places, DataW.whole enc Tryd.prog ((World.laidAll Tryd.prog os Rows.compBackRow.laid).forCall (fun _ _ => 0) ⟨#[], #[.slice none 0 0, .string ⟨#[]⟩], []⟩).memory Tryd.f11.params.toList Rows.compBackSpec.vars false
    #[Value.slice none 0 0, .string ⟨#[]⟩].toList 8 = some ([.nil, .lit (.string [])], [], places) :=
  ⟨[], by kernel_rfl⟩
set_option maxRecDepth 100000 in
theorem compBack_lifted (os : Os) (started : os.Started) (H : Type) (enc : TypeId × Value → H) (F : Stop.Interp) :
    ReturnsInHanded {} Tryd.checked os 11 .any ((OpenSpec.ofChange Rows.compBackSpec).preRow enc Tryd.prog Tryd.f11 Rows.compBackRow.domain false Rows.compBackRow.laid) (((OpenSpec.ofChange Rows.compBackSpec).at F).post enc Tryd.prog Tryd.f11 false true false false) := by
  obtain ⟨places, hx⟩ := compBack_reads os enc
  refine returnsInHanded_of_row (C := Tryd.checked) (s := OpenSpec.ofChange Rows.compBackSpec) ownKnobsB started (by kernel_rfl) Tryd.func11
    (witness_row_at (enc := enc) (C := Tryd.checked) false (World.laidAll Tryd.prog os Rows.compBackRow.laid) #[.slice none 0 0, .string ⟨#[]⟩] (World.laidAll_os _ _ _) (by kernel_rfl) (by kernel_rfl) (by kernel_rfl)
      (OpenSpec.preRow_of_cond 8 hx (by kernel_rfl) (fun k hk => by cases hk) (by kernel_rfl) (laidMet_laidAll _ (by kernel_rfl) (by kernel_rfl)))) ?_
  intro W base args ds gs before hval hW _ _ hsz hlaid hshape _
  exact compBack_contract H enc W base args ds gs before hval hW hsz hlaid hshape
theorem compBack_said : Rows.CompBackSaid :=
  OpenClaim.holds_of_cond 11 Tryd.f11 rfl rfl rfl rfl rfl rfl rfl ⟨rfl, rfl, rfl, rfl, rfl⟩ rfl rfl rfl rfl rfl (by kernel_rfl) Tryd.func11 (by kernel_rfl)
    (of_decide_eq_true (by kernel_rfl)) (by unfold Func.isWrapper; first | (rw [if_pos (by decide +kernel)]; kernel_rfl) | (rw [if_neg (by decide +kernel)]; exact ⟨rfl, rfl⟩))
    (fun os started H enc _ F => by rw [OpenClaim.pre_eq_preRow]; exact compBack_lifted os started H enc F)
theorem compBack_plain (f : FuncId) (fn : Func) (hf : Tryd.pinned.checked.prog.funcNamed "diptych/diptychlaw15.CompBack" = some f) (hfn : Tryd.pinned.checked.prog.funcs[f]? = some fn) :
    false = Tryd.pinned.checked.prog.looks [] ∧ ∀ (j : Nat) t, fn.params[j]? = some t → Tryd.pinned.checked.prog.wantsStandIn t = false := by
  obtain rfl : f = 11 := Option.some.inj ((show Tryd.prog.funcNamed "diptych/diptychlaw15.CompBack" = some 11 by kernel_rfl).symm.trans hf) |>.symm
  obtain rfl : fn = Tryd.f11 := (Option.some.inj (Tryd.func11.symm.trans hfn)).symm
  refine ⟨by kernel_rfl, fun j t ht => ?_⟩
  rw [Tryd.params11] at ht
  have hm : t ∈ [47, 9] := by simpa using Array.mem_of_getElem? ht
  have hall : ([47, 9].all fun u => !Tryd.prog.wantsStandIn u) = true := by kernel_rfl
  exact (show Tryd.prog.wantsStandIn t = false by simpa using List.all_eq_true.1 hall t hm)
/-- The card. -/
theorem compBack_card : Rows.CompBackCardSaid :=
  Claim7.holds_tied_plain_at .later [] _ _ _ _ compBack_said (fun _ h => by cases h) (by kernel_rfl) (fun _ h => by cases h) compBack_row_tie rfl ⟨rfl, rfl⟩ (by kernel_rfl) rfl compBack_plain (by kernel_rfl)
end Go.Proofs.YtonomogpephfkaaDoor
