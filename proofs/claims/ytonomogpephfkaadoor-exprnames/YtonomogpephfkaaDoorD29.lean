/-
  THE NAMES of an expression.
-/
import Derived.Test.YtonomogpephfkaaDoorD28
set_option linter.unusedVariables false
set_option linter.unusedSimpArgs false
namespace Go.Proofs.D
open Go Go.Abs
attribute [local simp] VC stepV stepTop stepReg stepOp stMove stPick stBin stUn stConv stBox stAlloc stLoad stStore stFieldAddr stField stExtract stNilCheck stMakeFunc stIndexAddr stIndex stLen
  stBuild placesOf fillA stBuildSlice sliceCells repL chunks allPV toPV drawOk drawOk.go mayMakeO mayMake1 disjoint pairOk Oper.apart Oper.looksAt Op.operands Call.operands Region.binds stAppend appBase appTail unName stSlice bndA
  LS.ev LS.get LS.blk LS.put LS.app LS.upd lkS lkH setS setH Nm.eqb guardOf nexts okPair dstOk AV.cellsOf takeAt putAt lkT sliceE fieldT intK isStrT isBoolT abin newOk LS.freshB LS.freshB.go LS.freshB.goH notIn AV.ments AV.ments.mentsL Blk.ments makes upsMents LS.start startL exitTo T Nat.blt
  conv convS convH srcs srcOf blkOk leA leA.leL leB leP laid laidM isArg subH retP resAV resL res1 AV.frz AV.frz.frzL evL AV.ren AV.ren.renL Blk.ren renBs blksOf allSome nodupB onlyArgs blksMents callUps keyed inName inName.go backName callSide
attribute [local simp] T2
def E.names (e : E) : List ByteArray := sortedNames (e.tally (.map []))
set_option maxRecDepth 20000 in
theorem f25 (Gl : Granted) (e : E) (hs : e.small) (hc : e.cnt ≤ 900000) : Fun Tryd.prog Gl 25 [e.av] [] (.pv (.ro 1 (e.names.map fun s => [.val (.string s)]))) [] := by
  have htal := tal_tally e (.map []) 0 tal_empty
  refine fun_of (T := T2) (n := 13) (rs := [.tmp 2]) Tryd.func25 (by kernel_rfl) rfl rfl rfl tok2 mixed (by simp) fun C hC => ?_
  refine hC.vc [] 60 ?_
  simp [E.av, E.cells]
  refine hC.makeIs 9 3 (by rfl) (by rfl) (by simp) ?_
  refine hC.vc [] 60 ?_
  simp
  refine hC.call [.loc 3, .loc 4, .loc 5] (f47 Gl e hs (.map []) 0 tal_empty (by omega)) (by simp [E.av, E.cells]) ?_
  refine hC.vc [] 60 ?_
  simp
  refine hC.call [.loc 5] (fun_own (a := []) (b := []) (by simp) rfl (f49 Gl (Nq (e.tally (.map []))))) (by simp) ?_
  refine hC.vc [] 60 ?_
  simp
  refine hC.call [] (f48 Gl (e.tally (.map [])) (by have := htal.size; omega)) (by simp) ?_
  refine hC.vc [] 60 ?_
  simp [E.names]
end Go.Proofs.D
