/-
  THE TYPES of schemas, and of what the document's answer has.
-/
import Derived.Test.YtciibpfhjfegnaaGreatDoorK0
import Derived.Test.YtciibpfhjfegnaaGreatDoorAbsR
import Derived.Test.YtciibpfhjfegnaaGreatDoorLO
set_option linter.unusedVariables false
set_option linter.unusedSimpArgs false
namespace Go.Proofs.D
open Go Go.Abs Go.RowKit
def T4 : TT := (59, ⟨true, 2, 48, [.nilS 5, .nilS 1], .str [(0, 57), (1, 25)]⟩) ::
  (57, ⟨false, 1, 24, [.nilS 5], .slice 74⟩) ::
  (74, ⟨true, 5, 88, [.val (.string ⟨#[]⟩), .val (.int .u8 0), .val (.string ⟨#[]⟩), .nilS 3, .nilS 2], .str [(0, 9), (1, 24), (4, 72)]⟩) ::
  (72, ⟨false, 1, 24, [.nilS 2], .slice 80⟩) ::
  (80, ⟨true, 2, 40, [.val (.string ⟨#[]⟩), .nilS 1], .str [(0, 9), (1, 25)]⟩) ::
  (65, ⟨true, 2, 48, [.nilS 5, .nilS 1], .str [(0, 63), (1, 25)]⟩) ::
  (63, ⟨false, 1, 24, [.nilS 5], .slice 136⟩) ::
  (136, ⟨true, 5, 88, [.val (.string ⟨#[]⟩), .val (.int .u8 0), .val (.string ⟨#[]⟩), .nilS 3, .nilS 2], .str [(0, 9), (1, 54), (4, 134)]⟩) ::
  (134, ⟨false, 1, 24, [.nilS 2], .slice 185⟩) ::
  (185, ⟨true, 2, 40, [.val (.string ⟨#[]⟩), .nilS 1], .str [(0, 9), (1, 25)]⟩) :: T3
end Go.Proofs.D
/-
  THE ANSWER TO CHAPTER 6: the names of an expression.
-/
set_option linter.unusedVariables false
set_option linter.unusedSimpArgs false
namespace Go.Proofs.D
open Go Go.Abs Go.RowKit
attribute [local simp] VC VCS stepVS stepTopS firstId memN bigB unmark markT mkOff calmP keepT boundB boundC stepV stepTop stepReg stepOp stMove stPick stBin stUn stConv stBox stAlloc stLoad stStore stFieldAddr stField stExtract stNilCheck stMakeFunc stIndexAddr stIndex stLen
  stBuild placesOf fillA stBuildSlice sliceCells repL chunks allPV toPV drawOk drawOk.go mayMakeO mayMake1 disjoint pairS Oper.apart Oper.looksAt Op.operands Call.operands Region.binds stAppend appBase appTail unName stSlice bndA
  LS.ev LS.get LS.blk LS.put LS.app LS.upd lkS lkH setS setH Nm.eqb guardOf nexts okPair dstOk AV.cellsOf takeAt putAt lkT sliceE fieldT intK isStrT isBoolT abin newOk LS.freshB LS.freshB.go LS.freshB.goH notIn AV.ments AV.ments.mentsL Blk.ments makes upsMents LS.start startL exitTo T T3 T4 outs callSideR callSideO callSideD upsR backO freshAll argB onlyIO List.map List.append List.nil_append List.cons_append Nat.blt
  conv convS convH srcs srcOf blkOk leA leA.leL Go.Abs.leB leP laid laidM laidG isArg subH retP resAV resL res1 AV.frz AV.frz.frzL evL AV.ren AV.ren.renL Blk.ren renBs blksOf allSome nodupB onlyArgs blksMents callUps keyed inName inName.go backName callSide
instance memDec (s : ByteArray) (l : List ByteArray) : Decidable (s ∈ l) := @List.instDecidableMemOfLawfulBEq _ instBEqOfDecidableEq inferInstance s l
/-- A name among names that are in order. -/
def putL (s : ByteArray) : List ByteArray → Bool → List ByteArray
  | [], done => if done = true then [] else [s]
  | x :: l, done => if done = false ∧ Op.bytesLess s.toList x.toList = true then s :: x :: putL s l true else x :: putL s l done
def putR (l : List ByteArray) (s : ByteArray) : List ByteArray := if s ∈ l then l else putL s l false
theorem putL_mem (s x : ByteArray) : ∀ (l : List ByteArray) (b : Bool), x ∈ putL s l b ↔ x ∈ l ∨ (b = false ∧ x = s)
  | [], b => by cases b <;> simp [putL]
  | y :: l, b => by
    simp only [putL]
    split
    · rename_i h
      have := putL_mem s x l true
      simp only [List.mem_cons, this, h.1]
      simp
      constructor
      · rintro (h | h | h)
        · exact .inr h
        · exact .inl (.inl h)
        · exact .inl (.inr h)
      · rintro ((h | h) | h)
        · exact .inr (.inl h)
        · exact .inr (.inr h)
        · exact .inl h
    · have := putL_mem s x l b
      simp only [List.mem_cons, this, or_assoc]
theorem putL_len (s : ByteArray) : ∀ (l : List ByteArray) (b : Bool), (putL s l b).length ≤ l.length + 1
  | [], b => by cases b <;> simp [putL]
  | y :: l, b => by
    simp only [putL]
    split
    · have : ∀ l : List ByteArray, (putL s l true).length = l.length := by
        intro l
        induction l with
        | nil => simp [putL]
        | cons y l ih => simp [putL, ih]
      simp [this]
    · have := putL_len s l b
      simp only [List.length_cons]; omega
theorem putR_mem (l : List ByteArray) (s x : ByteArray) : x ∈ putR l s ↔ x ∈ l ∨ x = s := by
  unfold putR
  split
  · rename_i h
    constructor
    · exact .inl
    · rintro (h1 | rfl)
      · exact h1
      · exact h
  · rw [putL_mem]; simp
theorem putR_len (l : List ByteArray) (s : ByteArray) : (putR l s).length ≤ l.length + 1 := by
  unfold putR
  split
  · omega
  · exact putL_len s l false
end Go.Proofs.D
