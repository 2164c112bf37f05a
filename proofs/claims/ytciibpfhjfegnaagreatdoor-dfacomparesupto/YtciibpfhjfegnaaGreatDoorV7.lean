/-
  THE LAW DfaCompares: whatever the input, it answers true, and each argument reads as it did: the card, out of the walk.
-/
import Derived.Test.YtciibpfhjfegnaaGreatDoorB7
import Derived.Test.YtciibpfhjfegnaaGreatDoorH30
set_option linter.unusedVariables false
set_option linter.unusedSimpArgs false
namespace Go.Proofs.YtciibpfhjfegnaaGreatDoor
open Go Go.Abs Go.RowKit Go.ChangeShapes Go.WideShapes Go.Proofs.D
set_option maxRecDepth 20000 in
theorem dfaCompares_contract (H : Type) (enc : TypeId × Value → H) (W : World) (base : Nat) (args : Array Value) (ds gs : List (DataW H)) (before : List MemPlace)
    (hval : ∀ (j : Nat) t v, Tryz.f8.params[j]? = some t → args[j]? = some v → Value.okWide Tryz.prog W .any base t v)
    (hW : DataW.Whole enc Tryz.prog Tryz.f8.params.toList Rows.dfaComparesSpec.vars false W args.toList ds gs before)
     (hk : Rows.uptoSmall H (ds ++ gs) = true) (hlaid : laidMetH Tryz.prog Rows.dfaComparesUptoRow.laid W) :
    Calls Tryz.prog 8 args W fun e W' => ∃ v, e = .returned v ∧ Rows.dfaComparesSpec.post enc Tryz.prog Tryz.f8 false true false false W args v W' := by
  have hW' := hW
  obtain ⟨p, q, hA, hV, rfl, _, _⟩ := hW
  obtain ⟨rfl, rfl⟩ := trodVars_none hV
  rw [Tryz.params8] at hA hval
  obtain ⟨v0, vs0, d0, ds0, p0, q0, hargs, rfl, rfl, h0, r0⟩ := trodAll_cons hA
  obtain ⟨v1, vs1, d1, ds1, p1, q1, rfl, rfl, rfl, h1, r1⟩ := trodAll_cons r0
  obtain ⟨rfl, rfl, rfl⟩ := trodAll_nil r1
  obtain rfl : args = #[v0, v1] := by cases args; simp_all
  simp only [List.append_nil] at hk
  obtain ⟨x0, hs0, hc0, hx0⟩ := argE h0 (bulk_of hk (by simp))
  obtain ⟨x1, hs1, hc1, hx1⟩ := argE h1 (bulk_of hk (by simp))
  refine (calls_of (Gl := tab10) ((fun e hs hc f hsf hcf => h8 e hs hc f hsf hcf) x0 hs0 hc0 x1 hs1 hc1) W [v0, v1] (tab10_of hlaid (by simp [Rows.dfaComparesUptoRow])) rfl fun j x c hx hc => ?_).mono fun e' W' ⟨he', hb'⟩ => ?_
  · match j, hx, hc with
    | 0, hx, hc => simp at hx hc; subst hx hc; exact hx0
    | 1, hx, hc => simp at hx hc; subst hx hc; exact hx1
  · subst he'
    refine ⟨_, rfl, post_true rfl hW' (fun t ht n => ?_) hb' (by kernel_rfl) Tryz.underlying4 rfl⟩
    rw [Tryz.params8] at ht
    simp at ht
    subst ht
    exact againE n
theorem dfaCompares_reads (os : Os) {H : Type} (enc : TypeId × Value → H) : ∃ places, DataW.whole enc Tryz.prog ((World.laidAll Tryz.prog os Rows.dfaComparesUptoRow.laid).forCall (fun _ _ => 0) ⟨#[], #[.agg #[.int .u8 0, .string ⟨#[]⟩, .slice none 0 0], .agg #[.int .u8 0, .string ⟨#[]⟩, .slice none 0 0]], []⟩).memory Tryz.f8.params.toList Rows.dfaComparesSpec.vars false
    #[Value.agg #[.int .u8 0, .string ⟨#[]⟩, .slice none 0 0], .agg #[.int .u8 0, .string ⟨#[]⟩, .slice none 0 0]].toList 8 = some ([.agg [.lit (.int .u8 0), .lit (.string []), .nil], .agg [.lit (.int .u8 0), .lit (.string []), .nil]], [], places) :=
  ⟨[], by kernel_rfl⟩
set_option maxRecDepth 100000 in
theorem dfaCompares_lifted (os : Os) (started : os.Started) (H : Type) (enc : TypeId × Value → H) (F : Stop.Interp) :
    ReturnsInHanded {} Tryz.checked os 8 .any ((Rows.OpenSpec.upto Rows.dfaComparesSpec).preRow enc Tryz.prog Tryz.f8 Rows.dfaComparesUptoRow.domain false Rows.dfaComparesUptoRow.laid) (((Rows.OpenSpec.upto Rows.dfaComparesSpec).at F).post enc Tryz.prog Tryz.f8 false true false false) := by
  obtain ⟨places, hx⟩ := dfaCompares_reads os enc
  refine returnsInHanded_of_row (C := Tryz.checked) (s := Rows.OpenSpec.upto Rows.dfaComparesSpec) ownKnobs7 started (by kernel_rfl) Tryz.func8
    (witness_row_at (enc := enc) (C := Tryz.checked) false (World.laidAll Tryz.prog os Rows.dfaComparesUptoRow.laid) #[.agg #[.int .u8 0, .string ⟨#[]⟩, .slice none 0 0], .agg #[.int .u8 0, .string ⟨#[]⟩, .slice none 0 0]] (World.laidAll_os _ _ _) (by kernel_rfl) (by kernel_rfl) (by kernel_rfl)
      (OpenSpec.preRow_of_cond 8 hx (by kernel_rfl) (fun k hk => by cases hk; kernel_rfl) (by kernel_rfl) (laidMet_laidAll _ (by kernel_rfl) (by kernel_rfl)))) ?_
  intro W base args ds gs before hval hW _ hcond _ hlaid _ _
  exact dfaCompares_contract H enc W base args ds gs before hval hW (hcond _ rfl) hlaid
set_option maxRecDepth 20000 in
set_option maxHeartbeats 4000000 in
theorem dfaCompares_closed : joinedFacts Tryz.prog 8 Tryz.f8 (Rows.OpenSpec.upto Rows.dfaComparesSpec).bare Rows.dfaComparesUptoRow = true := by
  simp only [joinedFacts, Bool.and_eq_true]
  and_intros <;> (as_aux_lemma => kernel_rfl)
theorem dfaCompares_said : Rows.DfaComparesUptoSaid :=
  OpenClaim.holds_of_cond 8 Tryz.f8 rfl rfl rfl rfl rfl rfl rfl ⟨rfl, rfl, rfl, rfl, rfl⟩ rfl rfl rfl rfl rfl (by kernel_rfl) Tryz.func8 dfaCompares_closed
    (of_decide_eq_true (by kernel_rfl)) (by unfold Func.isWrapper; first | (rw [if_pos (by decide +kernel)]; kernel_rfl) | (rw [if_neg (by decide +kernel)]; exact ⟨rfl, rfl⟩))
    (fun os started H enc _ F => by rw [OpenClaim.pre_eq_preRow]; exact dfaCompares_lifted os started H enc F)
theorem dfaCompares_plain (f : FuncId) (fn : Func) (hf : Tryz.pinned.checked.prog.funcNamed "diptych/diptychlaw7.DfaCompares" = some f) (hfn : Tryz.pinned.checked.prog.funcs[f]? = some fn) :
    false = Tryz.pinned.checked.prog.looks [] ∧ ∀ (j : Nat) t, fn.params[j]? = some t → Tryz.pinned.checked.prog.wantsStandIn t = false := by
  obtain rfl : f = 8 := Option.some.inj ((show Tryz.prog.funcNamed "diptych/diptychlaw7.DfaCompares" = some 8 by kernel_rfl).symm.trans hf) |>.symm
  obtain rfl : fn = Tryz.f8 := (Option.some.inj (Tryz.func8.symm.trans hfn)).symm
  refine ⟨by kernel_rfl, fun j t ht => ?_⟩
  rw [Tryz.params8] at ht
  have hm : t ∈ [24, 24] := by simpa using Array.mem_of_getElem? ht
  have hall : ([24, 24].all fun u => !Tryz.prog.wantsStandIn u) = true := by kernel_rfl
  exact (show Tryz.prog.wantsStandIn t = false by simpa using List.all_eq_true.1 hall t hm)
theorem dfaCompares_card : Rows.DfaComparesUptoCardSaid :=
  Claim7.holds_tied_plain_at .later [] _ _ _ _ dfaCompares_said (fun _ h => by cases h) (by kernel_rfl) (fun _ h => by cases h) dfaComparesUpto_row_tie rfl ⟨rfl, rfl⟩ (by kernel_rfl) rfl dfaCompares_plain (by kernel_rfl)
end Go.Proofs.YtciibpfhjfegnaaGreatDoor
