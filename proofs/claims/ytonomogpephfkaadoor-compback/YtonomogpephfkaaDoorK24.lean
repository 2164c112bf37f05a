/-
  THE LAW CompBack: whatever the complement and the text, it answers true.
-/
import Derived.Test.YtonomogpephfkaaDoorK23
import Derived.Test.YtonomogpephfkaaDoorK14
set_option linter.unusedVariables false
set_option linter.unusedSimpArgs false
set_option linter.unusedSimpArgs false
namespace Go.Proofs.D
open Go Go.Abs Go.RowKit
attribute [local simp] VC stepV stepTop stepReg stepOp stMove stPick stBin stUn stConv stBox stAlloc stLoad stStore stFieldAddr stField stExtract stNilCheck stMakeFunc stIndexAddr stIndex stLen
  stBuild placesOf fillA stBuildSlice sliceCells repL chunks allPV toPV drawOk drawOk.go mayMakeO mayMake1 disjoint pairOk Oper.apart Oper.looksAt Op.operands Call.operands Region.binds stAppend appBase appTail unName stSlice bndA
  LS.ev LS.get LS.blk LS.put LS.app LS.upd lkS lkH setS setH Nm.eqb guardOf nexts okPair dstOk AV.cellsOf takeAt putAt lkT sliceE fieldT intK isStrT isBoolT abin newOk LS.freshB LS.freshB.go LS.freshB.goH notIn AV.ments AV.ments.mentsL Blk.ments makes upsMents LS.start startL exitTo T T3 outs callSideO callSideD upsR backO freshAll argB onlyIO List.map List.append List.nil_append List.cons_append Nat.blt
  conv convS convH srcs srcOf blkOk leA leA.leL leB leP laid laidM isArg subH retP resAV resL res1 AV.frz AV.frz.frzL evL AV.ren AV.ren.renL Blk.ren renBs blksOf allSome nodupB onlyArgs blksMents callUps keyed inName inName.go backName callSide
theorem parseC_or (t : Bs) : parseC t = ([], 2) ∨ ∃ x, parseC t = (x, 0) ∧ okC x = true ∧ compB x = t := by
  unfold parseC
  split
  · exact .inl rfl
  · split
    · rename_i c _ h
      exact .inr ⟨c, rfl, h.1, h.2⟩
    · exact .inl rfl
set_option maxRecDepth 20000 in
set_option maxHeartbeats 2000000 in
theorem f11 (c : Cm) (t : Bs) (hs : ∀ l ∈ c, ∀ e ∈ l, Ent.small e) : Fun Tryd.prog tabs 11 [.pv (comp c), vT t] [] (vB true) [] := by
  refine fun_of (T := T3) (n := 86) (rs := [.tmp 4]) Tryd.func11 (by kernel_rfl) rfl rfl rfl tok3 mixed (by simp) fun C hC => ?_
  refine hC.vc [] 60 ?_
  simp
  refine hC.call [] f21 (by simp) ?_
  refine hC.vc [] 60 ?_
  simp
  refine hC.call [] (f22 tabs c hs) (by simp) ?_
  by_cases h1 : compWt c < 1500
  · by_cases h2 : 1500 < (t.length : Int)
    · refine hC.vc [] 60 ?_
      simp [h1, h2, bytesOf_size]
    · refine hC.vc [] 60 ?_
      simp [h1, h2, bytesOf_size]
      refine hC.call [] (f23 c (by omega)) (by simp) ?_
      refine hC.vc [] 6 ?_
      simp
      refine go_cut (ι := Unit) (fun _ => ⟨[(0, .pv (comp c)), (1, vT t)], []⟩) (fun _ => ?_) (fun tail => ?_)
      · have hwt := parseC_wt t
        refine hC.vc [] 60 ?_
        simp
        refine hC.call [] (f27 t (by omega)) (by simp) ?_
        rcases parseC_or t with hp | ⟨x, hp, hx, ht⟩
        · rw [hp]
          refine hC.vc [] 60 ?_
          simp
          refine hC.call [] (f24 tabs c c) (by simp) ?_
          refine hC.vc [] 60 ?_
          simp
        · rw [hp] at hwt ⊢
          simp only at hwt ⊢
          have e1 : printC x = bytesOf t := by rw [printC, hx, ht]; rfl
          have e2 : printE x = 0 := by rw [printE, hx]; rfl
          refine hC.vc [] 60 ?_
          simp
          refine hC.call [] (f23 x (by omega)) (by simp) ?_
          rw [e1, e2]
          refine hC.vc [] 60 ?_
          simp
          refine hC.call [] (f24 tabs c c) (by simp) ?_
          refine hC.vc [] 60 ?_
          simp
      · cases hk : okC c with
        | false =>
          have e2 : printE c = 2 := by rw [printE, hk]; rfl
          rw [e2]
          refine hC.vc [] 7 ?_
          simp
          exact go_to [] (tail ()) (by simp)
        | true =>
          have e1 : printC c = bytesOf (compB c) := by rw [printC, hk]; rfl
          have e2 : printE c = 0 := by rw [printE, hk]; rfl
          have hcl := comp_len c
          rw [e1, e2]
          refine hC.vc [] 60 ?_
          simp
          refine hC.call [] (f27 (compB c) (by omega)) (by simp) ?_
          rw [parse_print c hk]
          refine hC.vc [] 60 ?_
          simp
          refine hC.call [] (f24 tabs c c) (by simp) ?_
          refine hC.vc [] 5 ?_
          simp
          exact go_to [] (tail ()) (by simp)
  · refine hC.vc [] 60 ?_
    simp [h1]
end Go.Proofs.D
