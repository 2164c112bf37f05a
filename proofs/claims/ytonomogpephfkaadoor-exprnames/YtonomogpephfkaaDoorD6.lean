/-
  THE READER: sequences and alternatives.
-/
import Derived.Test.YtonomogpephfkaaDoorD5
set_option linter.unusedVariables false
set_option linter.unusedSimpArgs false
namespace Go.Proofs.D
open Go Go.Abs
attribute [local simp] VC stepV stepTop stepReg stepOp stMove stPick stBin stUn stConv stBox stAlloc stLoad stStore stFieldAddr stField stExtract stNilCheck stMakeFunc stIndexAddr stIndex stLen
  stBuild placesOf fillA stBuildSlice sliceCells repL chunks allPV toPV drawOk drawOk.go mayMakeO mayMake1 disjoint pairOk Oper.apart Oper.looksAt Op.operands Call.operands Region.binds stAppend appBase appTail unName stSlice bndA
  LS.ev LS.get LS.blk LS.put LS.app LS.upd lkS lkH setS setH Nm.eqb guardOf nexts okPair dstOk AV.cellsOf takeAt putAt lkT sliceE fieldT intK isStrT isBoolT abin newOk LS.freshB LS.freshB.go LS.freshB.goH notIn AV.ments AV.ments.mentsL Blk.ments makes upsMents LS.start startL exitTo T Nat.blt
  conv convS convH srcs srcOf blkOk leA leA.leL leB leP laid laidM isArg subH retP resAV resL res1 AV.frz AV.frz.frzL evL AV.ren AV.ren.renL Blk.ren renBs blksOf allSome nodupB onlyArgs blksMents callUps keyed inName inName.go backName callSide
theorem f54 (Gl : Granted) (read : St → E × St) (I : St → Prop) (hr : ∀ s, I s → Fun Tryd.prog Gl 82 [.ptr (.arg 0) 0] [some s.b] (read s).1.av [some (read s).2.b]) (hle : ∀ s, I s → (read s).2.left.size ≤ s.left.size)
    (hI : ∀ s, I s → (read s).2.bad = false → I (read s).2) (hcut : ∀ s sign, I s → hasPre s.left sign = true → I (s.cut sign)) (s : St) (hs0 : I s) (hsz : s.left.size ≤ 1000000000) :
    Fun Tryd.prog Gl 54 [.ptr (.arg 0) 0] [some s.b] (several read 115 ⟨#[32]⟩ s).1.av [some (several read 115 ⟨#[32]⟩ s).2.b] := by
  refine fun_of (T := T) (n := 7) (rs := [.cell 2 25]) Tryd.func54 (by kernel_rfl) rfl rfl rfl tok mixed (by simp) fun C hC => ?_
  refine hC.vc [] 60 ?_
  simp
  refine hC.call [.arg 0] (f53 Gl read 115 ⟨#[32]⟩ 82 I hr hle hI (fun q => hcut q _) (by decide) s hs0 hsz) (by simp [E.av, E.cells]) ?_
  refine hC.vc [] 60 ?_
  simp [E.av, E.cells]
theorem f28 (Gl : Granted) (read : St → E × St) (I : St → Prop) (hr : ∀ s, I s → Fun Tryd.prog Gl 54 [.ptr (.arg 0) 0] [some s.b] (read s).1.av [some (read s).2.b]) (hle : ∀ s, I s → (read s).2.left.size ≤ s.left.size)
    (hI : ∀ s, I s → (read s).2.bad = false → I (read s).2) (hcut : ∀ s sign, I s → hasPre s.left sign = true → I (s.cut sign)) (s : St) (hs0 : I s) (hsz : s.left.size ≤ 1000000000) :
    Fun Tryd.prog Gl 28 [.ptr (.arg 0) 0] [some s.b] (several read 97 ⟨#[124]⟩ s).1.av [some (several read 97 ⟨#[124]⟩ s).2.b] := by
  refine fun_of (T := T) (n := 7) (rs := [.cell 2 25]) Tryd.func28 (by kernel_rfl) rfl rfl rfl tok mixed (by simp) fun C hC => ?_
  refine hC.vc [] 60 ?_
  simp
  refine hC.call [.arg 0] (f53 Gl read 97 ⟨#[124]⟩ 54 I hr hle hI (fun q => hcut q _) (by decide) s hs0 hsz) (by simp [E.av, E.cells]) ?_
  refine hC.vc [] 60 ?_
  simp [E.av, E.cells]
end Go.Proofs.D
