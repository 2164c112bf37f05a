/-
  SCHEMAS: do names rise, where a value stands, is an attribute right, where a kind stands.
-/
import Derived.Test.YtdlnenkemolnlaaGreatDoorS0
import Derived.Test.YtdlnenkemolnlaaGreatDoorS1
import Derived.Test.YtdlnenkemolnlaaGreatDoorK18
set_option linter.unusedVariables false
set_option linter.unusedSimpArgs false
namespace Go.Proofs.D
open Go Go.Abs Go.RowKit
attribute [local simp] VC VCS stepVS stepTopS firstId memN bigB unmark markT mkOff calmP keepT boundB stepV stepTop stepReg stepOp stMove stPick stBin stUn stConv stBox stAlloc stLoad stStore stFieldAddr stField stExtract stNilCheck stMakeFunc stIndexAddr stIndex stLen
  stBuild placesOf fillA stBuildSlice sliceCells repL chunks allPV toPV drawOk drawOk.go mayMakeO mayMake1 disjoint pairOk Oper.apart Oper.looksAt Op.operands Call.operands Region.binds stAppend appBase appTail unName stSlice bndA
  LS.ev LS.get LS.blk LS.put LS.app LS.upd lkS lkH setS setH Nm.eqb guardOf nexts okPair dstOk AV.cellsOf takeAt putAt lkT sliceE fieldT intK isStrT isBoolT abin newOk LS.freshB LS.freshB.go LS.freshB.goH notIn AV.ments AV.ments.mentsL Blk.ments makes upsMents LS.start startL exitTo T T3 T4 outs callSideR callSideO callSideD upsR backO freshAll argB onlyIO List.map List.append List.nil_append List.cons_append Nat.blt
  conv convS convH srcs srcOf blkOk leA leA.leL Go.Abs.leB leP laid laidM isArg subH retP resAV resL res1 AV.frz AV.frz.frzL evL AV.ren AV.ren.renL Blk.ren renBs blksOf allSome nodupB onlyArgs blksMents callUps keyed inName inName.go backName callSide
set_option maxRecDepth 20000 in
theorem g58 (Gl : Granted) (l : List ByteArray) (hs : ∀ s ∈ l, s.size ≤ M47) : Fun Tryz.prog Gl 58 [.pv (strs l)] [] (vB (rise l)) [] := by
  refine fun_of (T := T4) (n := 29) (rs := [.tmp 2]) Tryz.func58 (by kernel_rfl) rfl rfl rfl tok4 mixed (by simp) fun C hC => ?_
  refine hC.vc [] 60 ?_
  simp
  refine go_len 0 1 (l.map fun s => [.val (.string s)]) (by simp) fun hk => ?_
  rw [List.length_map] at hk
  refine go_loop (ι := {i : Nat // i ≤ l.length ∧ rise l = riseFrom (prevAt l i) (l.drop i)}) (fun x => ⟨[(0, .pv (strs l)), (5, .pv (strs l)), (6, vI l.length), (7, vI x.1)], []⟩)
    (fun x => l.length - x.1) ⟨0, by simp [rise, prevAt]⟩ [] (by simp) fun x ih => ?_
  obtain ⟨i, hi, hn⟩ := x
  simp only at hi hn ih
  refine hC.vc [] 60 ?_
  by_cases hlt : i < l.length
  · rw [List.drop_eq_getElem_cons hlt] at hn
    simp only [riseFrom] at hn
    have hw := wr64 ((i : Int) + 1) (by omega)
    simp [hlt]
    refine hC.call [] (f58 Gl l[i] (by have := hs l[i] (by simp); simp only [M47] at this; omega)) (by simp) ?_
    refine hC.vc [] 60 ?_
    cases hnm : isName l[i] with
    | false =>
      simp [hn, hnm]
    | true =>
      rw [hnm, Bool.true_and] at hn
      by_cases h0 : 0 < (i : Int)
      · have hw2 := wr64 ((i : Int) - 1) (by omega)
        have hi1 : i - 1 < l.length := by omega
        have h0n : 0 < i := by omega
        have e1 : ((i : Int) - 1) = ((i - 1 : Nat) : Int) := by omega
        have hp : prevAt l i = some l[i - 1] := by
          unfold prevAt
          rw [if_neg (by omega), List.getElem?_eq_getElem hi1]
        rw [hp] at hn
        simp only at hn
        rw [e1] at hw2
        cases hu : notUp l[i] l[i - 1] with
        | true =>
          rw [hu] at hn
          have hu' : (Op.bytesLess l[i].toList l[i - 1].toList || decide (l[i] = l[i - 1])) = true := hu
          simp [h0n, hw2, e1, hi1, hu', hn]
        | false =>
          rw [hu] at hn
          have hu' : (Op.bytesLess l[i].toList l[i - 1].toList || decide (l[i] = l[i - 1])) = false := hu
          simp [h0n, hw2, e1, hi1, hu']
          exact go_to [] (ih ⟨i + 1, hlt, by rw [prevAt_succ hlt, hn]; simp⟩ (by simp; omega)) (by simp [hw])
      · have hi0 : i = 0 := by omega
        subst hi0
        simp only [prevAt, if_true, Bool.true_and] at hn
        simp
        exact go_to [] (ih ⟨1, hlt, by rw [hn]; simp [prevAt, List.getElem?_eq_getElem hlt]⟩ (by simp; omega)) (by simp [wr64 1 (by omega)])
  · rw [List.drop_eq_nil_of_le (by omega)] at hn
    simp [hlt, hn, riseFrom]

/-- Where a value stands first. -/
theorem g107 (Gl : Granted) (l : List ByteArray) (v : ByteArray) : Fun Tryz.prog Gl 107 [.pv (strs l), vS v] [] (vI (firstAt (fun x => decide (v = x)) l 0)) [] := by
  refine fun_of (T := T4) (n := 19) (rs := [.tmp 4]) Tryz.func107 (by kernel_rfl) rfl rfl rfl tok4 mixed (by simp) fun C hC => ?_
  refine hC.vc [] 60 ?_
  simp
  refine go_len 6 1 (l.map fun s => [.val (.string s)]) (by simp) fun hk => ?_
  rw [List.length_map] at hk
  refine go_loop (ι := {i : Nat // i ≤ l.length ∧ firstAt (fun x => decide (v = x)) l 0 = firstAt (fun x => decide (v = x)) (l.drop i) i}) (fun x => ⟨[(0, .pv (strs l)), (1, vS v), (7, vI l.length), (8, vI x.1)], []⟩) (fun x => l.length - x.1) ⟨0, by simp⟩ [] (by simp) fun x ih => ?_
  obtain ⟨i, hi, hn⟩ := x
  simp only at hi hn ih
  refine hC.vc [] 60 ?_
  simp
  by_cases hlt : i < l.length
  · rw [List.drop_eq_getElem_cons hlt] at hn
    simp only [firstAt] at hn
    by_cases hv : v = l[i]
    · simp [hlt, hv]
      rw [if_pos (by simp [hv])] at hn
      simp [hv] at hn
      simp [hn]
    · simp [hlt, hv]
      rw [if_neg (by simp [hv])] at hn
      have hw := wr64 ((i : Int) + 1) (by omega)
      exact go_to [] (ih ⟨i + 1, hlt, hn⟩ (by simp; omega)) (by simp [hw])
  · simp [hlt]
    rw [hn, List.drop_eq_nil_of_le (by omega)]
    simp [firstAt]
theorem g62 (Gl : Granted) (l : List ByteArray) (v : ByteArray) : Fun Tryz.prog Gl 62 [.pv (strs l), vS v] [] (vB (l.any fun x => decide (v = x))) [] := by
  refine fun_of (T := T4) (n := 9) (rs := [.tmp 4]) Tryz.func62 (by kernel_rfl) rfl rfl rfl tok4 mixed (by simp) fun C hC => ?_
  refine hC.vc [] 60 ?_
  simp
  refine hC.call [] (g107 Gl l v) (by simp) ?_
  refine hC.vc [] 60 ?_
  simp [firstAt_any]
end Go.Proofs.D
