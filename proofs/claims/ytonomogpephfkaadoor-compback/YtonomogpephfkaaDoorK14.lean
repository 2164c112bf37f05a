/-
  THE LAW CompSame: whatever the complements, it answers true.
-/
import Derived.Test.YtonomogpephfkaaDoorK13
set_option linter.unusedVariables false
set_option linter.unusedSimpArgs false
set_option linter.unusedSimpArgs false
namespace Go.Proofs.D
open Go Go.Abs Go.RowKit
attribute [local simp] VC stepV stepTop stepReg stepOp stMove stPick stBin stUn stConv stBox stAlloc stLoad stStore stFieldAddr stField stExtract stNilCheck stMakeFunc stIndexAddr stIndex stLen
  stBuild placesOf fillA stBuildSlice sliceCells repL chunks allPV toPV drawOk drawOk.go mayMakeO mayMake1 disjoint pairOk Oper.apart Oper.looksAt Op.operands Call.operands Region.binds stAppend appBase appTail unName stSlice bndA
  LS.ev LS.get LS.blk LS.put LS.app LS.upd lkS lkH setS setH Nm.eqb guardOf nexts okPair dstOk AV.cellsOf takeAt putAt lkT sliceE fieldT intK isStrT isBoolT abin newOk LS.freshB LS.freshB.go LS.freshB.goH notIn AV.ments AV.ments.mentsL Blk.ments makes upsMents LS.start startL exitTo T T3 outs callSideO callSideD upsR backO freshAll argB onlyIO List.map List.append List.nil_append List.cons_append Nat.blt
  conv convS convH srcs srcOf blkOk leA leA.leL leB leP laid laidM isArg subH retP resAV resL res1 AV.frz AV.frz.frzL evL AV.ren AV.ren.renL Blk.ren renBs blksOf allSome nodupB onlyArgs blksMents callUps keyed inName inName.go backName callSide
def c0 : Cm := [[⟨true, ⟨#[120]⟩, []⟩, ⟨false, ⟨#[]⟩, []⟩]]
theorem x0_check : (xOf []).check = 0 := by
  have hk : ¬ (xOf []).kind = textK := by
    intro e
    have h1 : (xOf []).kind = ⟨#[120]⟩ := rfl
    rw [h1] at e
    exact absurd (congrArg ByteArray.size e) (by decide)
  have hf : (xOf []).form = true := by
    rw [N.form_eq, if_neg hk]
    have hn : isName (xOf []).kind = true := by decide
    rw [hn]
    rfl
  have hd : (xOf []).deep = 1 := by rw [N.deep_eq, if_neg hk]; exact wr64 1 (by omega)
  have hs : (xOf []).size = 2 := by rw [N.size_eq, if_neg hk]; exact wr64 2 (by omega)
  simp [N.check, hf, hd, hs]
theorem c0_ok : okC c0 = true := by
  have hv : value ⟨#[120]⟩ = true := by decide +kernel
  simp [okC, c0, Ent.ok, Ent.none, hv, x0_check]
theorem c0_print : printC c0 = ⟨#[61, 34, 120, 34, 32, 45, 10]⟩ := by
  rw [printC, if_pos c0_ok]
  rfl
theorem c0_err : printE c0 = 0 := by rw [printE, if_pos c0_ok]
theorem c0_wt : compWt c0 ≤ 90000 := by
  have h1 : (⟨#[120]⟩ : ByteArray).size = 1 := rfl
  have h0 : (⟨#[]⟩ : ByteArray).size = 0 := rfl
  simp [compWt, c0, slotWt, Ent.wt, N.wt.go, h1, h0]
set_option maxRecDepth 20000 in
theorem f21 : Fun Tryd.prog tabs 21 [] [] (vB true) [] := by
  refine fun_of (T := T3) (n := 21) (rs := [.tmp 0]) Tryd.func21 (by kernel_rfl) rfl rfl rfl tok3 mixed (by simp) fun C hC => ?_
  refine hC.vc [] 60 ?_
  simp
  refine hC.call [] (f23 c0 c0_wt) (by simp [c0, Ent.pv]) ?_
  rw [c0_print, c0_err]
  refine hC.vc [] 60 ?_
  simp
  refine hC.call [] (f35 tabs 97 ⟨#[]⟩ ⟨#[]⟩ ⟨#[]⟩ (.nilS 1) (.nilS 1) rfl) (by simp) ?_
  refine hC.vc [] 60 ?_
  simp
theorem print_same {a b : Cm} (ha : okC a = true) (hb : okC b = true) : decide (printC a = printC b) = decide (a = b) := by
  rw [printC, if_pos ha, printC, if_pos hb]
  refine decide_eq_decide.2 ⟨fun h => ?_, fun h => by rw [h]⟩
  have := congrArg (fun s : ByteArray => s.data.toList) h
  exact comp_uni a b ha hb (by simpa [bs] using this)
set_option maxRecDepth 20000 in
set_option maxHeartbeats 2000000 in
theorem f8 (a b : Cm) (hsa : ∀ l ∈ a, ∀ e ∈ l, Ent.small e) (hsb : ∀ l ∈ b, ∀ e ∈ l, Ent.small e) : Fun Tryd.prog tabs 8 [.pv (comp a), .pv (comp b)] [] (vB true) [] := by
  refine fun_of (T := T3) (n := 78) (rs := [.tmp 4]) Tryd.func8 (by kernel_rfl) rfl rfl rfl tok3 mixed (by simp) fun C hC => ?_
  refine hC.vc [] 60 ?_
  simp
  refine hC.call [] f21 (by simp) ?_
  refine hC.vc [] 60 ?_
  simp
  refine hC.call [] (f22 tabs a hsa) (by simp) ?_
  refine hC.vc [] 60 ?_
  simp
  refine hC.call [] (f22 tabs b hsb) (by simp) ?_
  by_cases h1 : compWt a < 1500
  · by_cases h2 : compWt b < 1500
    · refine hC.vc [] 60 ?_
      simp [h1, h2]
      refine hC.call [] (f23 a (by omega)) (by simp) ?_
      refine hC.vc [] 60 ?_
      simp
      refine hC.call [] (f23 b (by omega)) (by simp) ?_
      refine hC.vc [] 60 ?_
      simp
      refine hC.call [] (f24 tabs a b) (by simp) ?_
      refine hC.vc [] 60 ?_
      simp
      refine hC.call [] (f24 tabs b a) (by simp) ?_
      have hba : decide (b = a) = decide (a = b) := decide_eq_decide.2 ⟨Eq.symm, Eq.symm⟩
      rw [hba]
      obtain ⟨x, hx⟩ : ∃ x, decide (a = b) = x := ⟨_, rfl⟩
      have hps : okC a = true → okC b = true → decide (printC a = printC b) = x := fun h h' => by rw [print_same h h', hx]
      rw [hx]
      refine hC.vc [] 60 ?_
      simp
      refine hC.call [] (f24 tabs a a) (by simp) ?_
      have haa : decide (a = a) = true := by simp
      rw [haa]
      cases ha : okC a with
      | false =>
        have e1 : printC a = ⟨#[]⟩ := by rw [printC, ha]; rfl
        have e2 : printE a = 2 := by rw [printE, ha]; rfl
        rw [e1, e2]
        cases hb : okC b with
        | false =>
          have e3 : printC b = ⟨#[]⟩ := by rw [printC, hb]; rfl
          have e4 : printE b = 2 := by rw [printE, hb]; rfl
          rw [e3, e4]
          refine hC.vc [] 60 ?_
          cases x <;> simp
        | true =>
          have e4 : printE b = 0 := by rw [printE, hb]; rfl
          rw [e4]
          refine hC.vc [] 60 ?_
          by_cases hz : printC b = ⟨#[]⟩ <;> cases x <;> simp [hz]
      | true =>
        have e2 : printE a = 0 := by rw [printE, ha]; rfl
        rw [e2]
        cases hb : okC b with
        | false =>
          have e3 : printC b = ⟨#[]⟩ := by rw [printC, hb]; rfl
          have e4 : printE b = 2 := by rw [printE, hb]; rfl
          rw [e3, e4]
          refine hC.vc [] 60 ?_
          by_cases hz : printC a = ⟨#[]⟩ <;> cases x <;> simp [hz]
        | true =>
          have e4 : printE b = 0 := by rw [printE, hb]; rfl
          rw [e4]
          have hq := hps ha hb
          refine hC.vc [] 60 ?_
          by_cases hz : printC a = printC b
          · have : x = true := by rw [← hq]; simp [hz]
            subst this
            simp [hz]
          · have : x = false := by rw [← hq]; simp [hz]
            subst this
            simp [hz]
    · refine hC.vc [] 60 ?_
      simp [h1, h2]
  · refine hC.vc [] 60 ?_
    simp [h1]
end Go.Proofs.D
