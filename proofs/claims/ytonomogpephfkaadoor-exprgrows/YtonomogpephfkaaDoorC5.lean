/-
  THE LAW ExprGrows: the row's statement and its card.
-/
import Derived.Test.YtonomogpephfkaaDoorCards
import Derived.Test.YtonomogpephfkaaDoorTie
import Derived.Lay
import Derived.Deep.DeepHandedRow
import Derived.Lib.LaidTab
import Derived.SizedLaws
import Derived.Test.YtonomogpephfkaaDoorB1
import Derived.Test.YtonomogpephfkaaDoorD21
set_option linter.unusedVariables false
set_option linter.unusedSimpArgs false
namespace Go.Proofs.YtonomogpephfkaaDoor
open Go Go.Abs Go.RowKit Go.ChangeShapes Go.WideShapes Go.Proofs.D
theorem own : ownKnob Tryd.prog.godebug = none := by kernel_rfl
theorem bytes9 : Tryd.prog.bytesOf 9 = 16 := by kernel_rfl
theorem len_bound {H : Type} {ts : List TypeId} {ds : List (DataW H)} (h : (DataW.weightsEach Tryd.prog ts ds).all (· ≤ reachBytes) = true) {j : Nat} {d : DataW H} (ht : ts[j]? = some 42) (hd : ds[j]? = some d) {l : List ByteArray}
    (hl : d = .nil ∧ l = [] ∨ ∃ es sp, d = .slice es sp ∧ es.length = l.length) : l.length ≤ 140737488355328 := by
  rcases hl with ⟨_, rfl⟩ | ⟨es, sp, rfl, he⟩
  · simp
  · have h1 := sized_slice h ht hd Tryd.underlying42
    have h2 := reachBytes_lt
    rw [bytes9] at h1
    omega
set_option maxRecDepth 20000 in
theorem grows_contract (H : Type) (enc : TypeId × Value → H) (W : World) (base : Nat) (args : Array Value) (ds gs : List (DataW H)) (before : List MemPlace)
    (hval : ∀ (j : Nat) t v, Tryd.f5.params[j]? = some t → args[j]? = some v → Value.okWide Tryd.prog W .any base t v)
    (hW : DataW.Whole enc Tryd.prog Tryd.f5.params.toList Rows.exprGrowsSpec.vars false W args.toList ds gs before)
    (hsz : (DataW.weightsEach Tryd.prog (Tryd.f5.params.toList ++ (OpenSpec.ofChange Rows.exprGrowsSpec).bare.plain.varTypes Tryd.prog) (ds ++ gs)).all (· ≤ reachBytes) = true) :
    Calls Tryd.prog 5 args W fun e W' => ∃ v, e = .returned v ∧ Rows.exprGrowsSpec.post enc Tryd.prog Tryd.f5 false true false false W args v W' := by
  have hW' := hW
  obtain ⟨p, q, hA, hV, rfl, _, _⟩ := hW
  obtain ⟨rfl, rfl⟩ := trodVars_none hV
  rw [Tryd.params5] at hA hval hsz
  obtain ⟨v0, vs0, d0, ds0, p0, q0, hargs, rfl, rfl, h0, r0⟩ := trodAll_cons hA
  obtain ⟨v1, vs1, d1, ds1, p1, q1, rfl, rfl, rfl, h1, r1⟩ := trodAll_cons r0
  obtain ⟨v2, vs2, d2, ds2, p2, q2, rfl, rfl, rfl, h2, r2⟩ := trodAll_cons r1
  obtain ⟨rfl, rfl, rfl⟩ := trodAll_nil r2
  obtain rfl : args = #[v0, v1, v2] := by cases args; simp_all
  obtain ⟨e, hs, he⟩ := arg25 h0
  obtain ⟨a, ha, hla, _⟩ := arg42 (hval 1 42 v1 rfl rfl) h1
  obtain ⟨b, hb, hlb, _⟩ := arg42 (hval 2 42 v2 rfl rfl) h2
  have la := len_bound hsz (j := 1) rfl rfl hla
  have lb := len_bound hsz (j := 2) rfl rfl hlb
  refine (calls_of (f5 granted e hs a b la lb) W [v0, v1, v2] trivial rfl fun j x c hx hc => ?_).mono fun e' W' ⟨he', hb'⟩ => ?_
  · match j, hx, hc with
    | 0, hx, hc => simp at hx hc; subst hx hc; exact he
    | 1, hx, hc => simp at hx hc; subst hx hc; exact ha
    | 2, hx, hc => simp at hx hc; subst hx hc; exact hb
  · subst he'
    refine ⟨_, rfl, post_true rfl hW' (fun t ht n => ?_) hb' (by kernel_rfl) Tryd.underlying4 rfl⟩
    rw [Tryd.params5] at ht
    simp at ht
    rcases ht with rfl | rfl
    · exact again25 n
    · exact again42 n
theorem grows_reads (os : Os) {H : Type} (enc : TypeId × Value → H) : ∃ places, DataW.whole enc Tryd.prog ((World.laidAll Tryd.prog os Rows.exprGrowsRow.laid).forCall (fun _ _ => 0) ⟨#[], #[.agg #[.int .u8 0, .string ⟨#[]⟩, .slice none 0 0], .slice none 0 0, .slice none 0 0], []⟩).memory Tryd.f5.params.toList Rows.exprGrowsSpec.vars false
    #[Value.agg #[.int .u8 0, .string ⟨#[]⟩, .slice none 0 0], .slice none 0 0, .slice none 0 0].toList 8 = some ([.agg [.lit (.int .u8 0), .lit (.string []), .nil], .nil, .nil], [], places) :=
  ⟨[], by kernel_rfl⟩
set_option maxRecDepth 100000 in
theorem grows_lifted (os : Os) (started : os.Started) (H : Type) (enc : TypeId × Value → H) (F : Stop.Interp) :
    ReturnsInHanded {} Tryd.checked os 5 .any ((OpenSpec.ofChange Rows.exprGrowsSpec).preRow enc Tryd.prog Tryd.f5 Rows.exprGrowsRow.domain false Rows.exprGrowsRow.laid) (((OpenSpec.ofChange Rows.exprGrowsSpec).at F).post enc Tryd.prog Tryd.f5 false true false false) := by
  obtain ⟨places, hx⟩ := grows_reads os enc
  refine returnsInHanded_of_row (C := Tryd.checked) (s := OpenSpec.ofChange Rows.exprGrowsSpec) own started (by kernel_rfl) Tryd.func5
    (witness_row_at (enc := enc) (C := Tryd.checked) false (World.laidAll Tryd.prog os Rows.exprGrowsRow.laid) #[.agg #[.int .u8 0, .string ⟨#[]⟩, .slice none 0 0], .slice none 0 0, .slice none 0 0] (World.laidAll_os _ _ _) (by kernel_rfl) (by kernel_rfl) (by kernel_rfl)
      (OpenSpec.preRow_of_cond 8 hx (by kernel_rfl) (fun k hk => by cases hk) (by kernel_rfl) (laidMet_laidAll _ (by kernel_rfl) (by kernel_rfl)))) ?_
  intro W base args ds gs before hval hW _ _ hsz _ _ _
  exact grows_contract H enc W base args ds gs before hval hW hsz
theorem grows_said : Rows.ExprGrowsSaid :=
  OpenClaim.holds_of_cond 5 Tryd.f5 rfl rfl rfl rfl rfl rfl rfl ⟨rfl, rfl, rfl, rfl, rfl⟩ rfl rfl rfl rfl rfl (by kernel_rfl) Tryd.func5 (by kernel_rfl)
    (of_decide_eq_true (by kernel_rfl)) (by unfold Func.isWrapper; first | (rw [if_pos (by decide +kernel)]; kernel_rfl) | (rw [if_neg (by decide +kernel)]; exact ⟨rfl, rfl⟩))
    (fun os started H enc _ F => by rw [OpenClaim.pre_eq_preRow]; exact grows_lifted os started H enc F)
theorem grows_plain (f : FuncId) (fn : Func) (hf : Tryd.pinned.checked.prog.funcNamed "diptych/diptychlaw6.ExprGrows" = some f) (hfn : Tryd.pinned.checked.prog.funcs[f]? = some fn) :
    false = Tryd.pinned.checked.prog.looks [] ∧ ∀ (j : Nat) t, fn.params[j]? = some t → Tryd.pinned.checked.prog.wantsStandIn t = false := by
  obtain rfl : f = 5 := Option.some.inj ((show Tryd.prog.funcNamed "diptych/diptychlaw6.ExprGrows" = some 5 by kernel_rfl).symm.trans hf) |>.symm
  obtain rfl : fn = Tryd.f5 := (Option.some.inj (Tryd.func5.symm.trans hfn)).symm
  refine ⟨by kernel_rfl, fun j t ht => ?_⟩
  rw [Tryd.params5] at ht
  have hm : t ∈ [25, 42, 42] := by simpa using Array.mem_of_getElem? ht
  have hall : ([25, 42, 42].all fun u => !Tryd.prog.wantsStandIn u) = true := by kernel_rfl
  exact (show Tryd.prog.wantsStandIn t = false by simpa using List.all_eq_true.1 hall t hm)
/-- The card. -/
theorem grows_card : Rows.ExprGrowsCardSaid :=
  Claim7.holds_tied_plain_at .later [] _ _ _ _ grows_said (fun _ h => by cases h) (by kernel_rfl) (fun _ h => by cases h) exprGrows_row_tie rfl ⟨rfl, rfl⟩ (by kernel_rfl) rfl grows_plain (by kernel_rfl)
end Go.Proofs.YtonomogpephfkaaDoor
