/-
  PREFIXES.
-/
import Derived.Test.YtonomogpephfkaaDoorD0
set_option linter.unusedVariables false
set_option linter.unusedSimpArgs false
namespace Go.Proofs.D
open Go Go.Abs
attribute [local simp] VC stepV stepTop stepReg stepOp stMove stPick stBin stUn stConv stBox stAlloc stLoad stStore stFieldAddr stField stExtract stNilCheck stMakeFunc stIndexAddr stIndex stLen
  stBuild placesOf fillA stBuildSlice sliceCells repL chunks allPV toPV drawOk drawOk.go mayMakeO mayMake1 disjoint pairOk Oper.apart Oper.looksAt Op.operands Call.operands Region.binds stAppend appBase appTail unName stSlice bndA
  LS.ev LS.get LS.blk LS.put LS.app LS.upd lkS lkH setS setH Nm.eqb guardOf nexts okPair dstOk AV.cellsOf takeAt putAt lkT sliceE fieldT intK isStrT isBoolT abin newOk LS.freshB LS.freshB.go LS.freshB.goH notIn AV.ments AV.ments.mentsL Blk.ments makes upsMents LS.start startL exitTo T Nat.blt
  conv convS convH srcs srcOf blkOk leA leA.leL leB leP laid laidM isArg subH retP resAV resL res1 AV.frz AV.frz.frzL evL AV.ren AV.ren.renL Blk.ren renBs blksOf allSome nodupB onlyArgs blksMents callUps keyed inName inName.go backName callSide
def hasPre (s p : ByteArray) : Bool := decide (p.size ≤ s.size) && decide (s.extract 0 p.size = p)
theorem f96 (Gl : Granted) (s p : ByteArray) : Fun Tryd.prog Gl 96 [vS s, vS p] [] (vB (hasPre s p)) [] := by
  refine fun_of (T := T) (n := 18) (rs := [.tmp 4]) Tryd.func96 (by kernel_rfl) rfl rfl rfl tok mixed (by simp) fun C hC => ?_
  refine hC.vc [] 60 ?_
  simp
  by_cases h : p.size ≤ s.size
  · simp [h, hasPre]
  · simp [h, hasPre]
def cutPre (s p : ByteArray) : ByteArray := if hasPre s p = true then s.extract p.size s.size else s
theorem hasPre_le {s p : ByteArray} (h : hasPre s p = true) : p.size ≤ s.size := by simp [hasPre] at h; exact h.1
theorem f75 (Gl : Granted) (s p : ByteArray) : Fun Tryd.prog Gl 75 [vS s, vS p] [] (.tup [vS (cutPre s p), vB (hasPre s p)]) [] := by
  refine fun_of (T := T) (n := 15) (rs := [.tmp 4, .tmp 5]) Tryd.func75 (by kernel_rfl) rfl rfl rfl tok mixed (by simp) fun C hC => ?_
  refine hC.vc [] 60 ?_
  simp
  refine hC.call [] (f96 Gl s p) (by simp) ?_
  refine hC.vc [] 60 ?_
  simp
  cases h : hasPre s p
  · simp [cutPre, h]
  · simp [cutPre, h, hasPre_le h]
theorem f50 (Gl : Granted) (s p : ByteArray) : Fun Tryd.prog Gl 50 [vS s, vS p] [] (.tup [vS (cutPre s p), vB (hasPre s p)]) [] := by
  refine fun_of (T := T) (n := 11) (rs := [.tmp 4, .tmp 5]) Tryd.func50 (by kernel_rfl) rfl rfl rfl tok mixed (by simp) fun C hC => ?_
  refine hC.vc [] 60 ?_
  simp
  refine hC.call [] (f75 Gl s p) (by simp) ?_
  refine hC.vc [] 60 ?_
  simp
/-- The reader of expressions. -/
def rdB (left : ByteArray) (bad : Bool) (many : Int) : Blk := .box 59 [vS left, vB bad, vI many]
theorem f81 (Gl : Granted) (s p : ByteArray) (bad : Bool) (many : Int) : Fun Tryd.prog Gl 81 [.ptr (.arg 0) 0, vS p] [some (rdB s bad many)] (vB (hasPre s p)) [some (rdB (cutPre s p) bad many)] := by
  refine fun_of (T := T) (n := 21) (rs := [.tmp 4]) Tryd.func81 (by kernel_rfl) rfl rfl rfl tok mixed (by simp) fun C hC => ?_
  refine hC.vc [] 60 ?_
  simp [rdB]
  refine hC.call [] (f50 Gl s p) (by simp) ?_
  refine hC.vc [] 60 ?_
  simp [rdB]
end Go.Proofs.D
