/-
  WHERE ONE MAY BE BEHIND AN EXPRESSION: it or nothing.
-/
import Derived.Test.YtonomogpephfkaaDoorD11
import Derived.Test.YtonomogpephfkaaDoorL1
set_option linter.unusedVariables false
set_option linter.unusedSimpArgs false
namespace Go.Proofs.D
open Go Go.Abs
attribute [local simp] VC stepV stepTop stepReg stepOp stMove stPick stBin stUn stConv stBox stAlloc stLoad stStore stFieldAddr stField stExtract stNilCheck stMakeFunc stIndexAddr stIndex stLen
  stBuild placesOf fillA stBuildSlice sliceCells repL chunks allPV toPV drawOk drawOk.go mayMakeO mayMake1 disjoint pairOk Oper.apart Oper.looksAt Op.operands Call.operands Region.binds stAppend appBase appTail unName stSlice bndA
  LS.ev LS.get LS.blk LS.put LS.app LS.upd lkS lkH setS setH Nm.eqb guardOf nexts okPair dstOk AV.cellsOf takeAt putAt lkT sliceE fieldT intK isStrT isBoolT abin newOk LS.freshB LS.freshB.go LS.freshB.goH notIn AV.ments AV.ments.mentsL Blk.ments makes upsMents LS.start startL exitTo T Nat.blt
  conv convS convH srcs srcOf blkOk leA leA.leL leB leP laid laidM isArg subH retP resAV resL res1 AV.frz AV.frz.frzL evL AV.ren AV.ren.renL Blk.ren renBs blksOf allSome nodupB onlyArgs blksMents callUps keyed inName inName.go backName callSide
set_option maxRecDepth 20000 in
theorem f34_opt (Gl : Granted) (N : Nat) (hN : N + 1 < maxLen) (w : Row) (hw : w.length = N) (e : E) (hop : e.op = 63) (k : E) (hkk : e.kids = [k]) (S : Nat → Prop) (hS : ∀ i, S i → i ≤ N)
    (hk : ∀ k ∈ e.kids, ∀ S, (∀ i, S i → i ≤ N) → Fun Tryd.prog Gl 34 [k.av, rowAV w, .rom (Q N S)] [] (.rom (Q N (stepP k.L w S))) []) :
    Fun Tryd.prog Gl 34 [e.av, rowAV w, .rom (Q N S)] [] (.rom (Q N (fun j => S j ∨ stepP k.L w S j))) [] := by
  refine fun_of (T := T) (n := 120) (rs := [.tmp 6]) Tryd.func34 (by kernel_rfl) rfl rfl rfl tok mixed (by simp) fun C hC => ?_
  refine hC.vc [] 60 ?_
  simp [E.av, E.cells, hop, hkk]
  refine hC.makeSet 3 3 N (by rfl) (by rfl) (by simp) ?_
  refine hC.vc [] 60 ?_
  simp [hop]
  refine hC.call [.loc 7, .loc 16] (f62 Gl N hN (fun _ => False) S) (by simp) ?_
  refine hC.vc [] 60 ?_
  simp [E.pv_eq k]
  refine hC.call [] (hk k (by simp [hkk]) S hS) (by simp [E.av, E.cells]) ?_
  refine hC.vc [] 60 ?_
  simp
  refine hC.call [.loc 7, .loc 16] (f62 Gl N hN (fun i => False ∨ S i) (stepP k.L w S)) (by simp) ?_
  refine hC.vc [] 60 ?_
  simp
end Go.Proofs.D
