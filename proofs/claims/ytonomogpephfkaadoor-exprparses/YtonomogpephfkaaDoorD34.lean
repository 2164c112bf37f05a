/-
  THE SECOND ANSWER: how an expression is written.
-/
import Derived.Test.YtonomogpephfkaaDoorD33
import Derived.Test.YtonomogpephfkaaDoorD18
import Derived.Test.YtonomogpephfkaaDoorD4
set_option linter.unusedVariables false
set_option linter.unusedSimpArgs false
namespace Go.Proofs.D
open Go Go.Abs
attribute [local simp] VC stepV stepTop stepReg stepOp stMove stPick stBin stUn stConv stBox stAlloc stLoad stStore stFieldAddr stField stExtract stNilCheck stMakeFunc stIndexAddr stIndex stLen
  stBuild placesOf fillA stBuildSlice sliceCells repL chunks allPV toPV drawOk drawOk.go mayMakeO mayMake1 disjoint pairOk Oper.apart Oper.looksAt Op.operands Call.operands Region.binds stAppend appBase appTail unName stSlice bndA
  LS.ev LS.get LS.blk LS.put LS.app LS.upd lkS lkH setS setH Nm.eqb guardOf nexts okPair dstOk AV.cellsOf takeAt putAt lkT sliceE fieldT intK isStrT isBoolT abin newOk LS.freshB LS.freshB.go LS.freshB.goH notIn AV.ments AV.ments.mentsL Blk.ments makes upsMents LS.start startL exitTo T Nat.blt
  conv convS convH srcs srcOf blkOk leA leA.leL leB leP laid laidM isArg subH retP resAV resL res1 AV.frz AV.frz.frzL evL AV.ren AV.ren.renL Blk.ren renBs blksOf allSome nodupB onlyArgs blksMents callUps keyed inName inName.go backName callSide
theorem f56 (Gl : Granted) (e : E) (hs : e.small) : Fun Tryd.prog Gl 56 [e.av] [] (vB e.right) [] := by
  refine fun_of (T := T) (n := 10) (rs := [.tmp 2]) Tryd.func56 (by kernel_rfl) rfl rfl rfl tok mixed (by simp) fun C hC => ?_
  refine hC.vc [] 60 ?_
  simp [E.av, E.cells]
  refine hC.call [] (f83 Gl e) (by simp [E.av, E.cells]) ?_
  by_cases h : e.many ≤ 24
  · refine hC.vc [] 60 ?_
    simp [h]
    refine hC.call [] (f84 Gl e hs) (by simp [E.av, E.cells]) ?_
    refine hC.vc [] 60 ?_
    cases hk : e.ok <;> simp [E.right, h, hk]
  · refine hC.vc [] 60 ?_
    simp [h, E.right]
/-- What is put between the parts. -/
def E.sep (e : E) : ByteArray := if e.op = 115 then ⟨#[32]⟩ else if e.op = 97 then ⟨#[124]⟩ else ⟨#[]⟩
theorem joinB_nil (sep : ByteArray) : joinB [] sep = ⟨#[]⟩ := rfl
theorem bytes_ext {s t : ByteArray} (h : s.data.toList = t.data.toList) : s = t := by
  obtain ⟨⟨l⟩⟩ := s
  obtain ⟨⟨m⟩⟩ := t
  simp at h
  rw [h]
theorem joinB_snoc (l : List ByteArray) (t sep : ByteArray) : joinB (l ++ [t]) sep = (if l = [] then ⟨#[]⟩ else joinB l sep ++ sep) ++ t := by
  cases l with
  | nil => exact bytes_ext (by simp [joinB, Lib.join_one, ByteArray.data_append])
  | cons x r =>
    refine bytes_ext ?_
    simp only [joinB, List.cons_append, List.map_cons, List.map_append, List.map_nil, Lib.join_cons, if_neg (List.cons_ne_nil x r), ByteArray.data_append, Array.toList_append, List.toList_toArray]
    simp [Lib.joinTail]
theorem sep_size (e : E) : e.sep.size ≤ 1 := by
  unfold E.sep
  split
  · decide
  · split <;> decide
theorem text_par (k : E) : k.text true = if k.op = 97 ∨ (k.op = 115 ∧ k.kids ≠ []) then ⟨#[40]⟩ ++ k.text false ++ ⟨#[41]⟩ else k.text false := by
  rw [text_eq k true, text_eq k false]
  by_cases h1 : k.op = 110
  · simp [h1]
  · by_cases h2 : k.op = 115
    · by_cases h3 : k.kids = []
      · simp [h2, h3]
      · simp [h2, h3, par]
    · by_cases h4 : k.op = 97
      · simp [h4, par]
      · simp [h1, h2, h4]
theorem take_sum (l : List Nat) (i : Nat) : (l.take i).sum ≤ l.sum := by
  induction l generalizing i with
  | nil => simp
  | cons x l ih =>
    cases i with
    | zero => simp
    | succ i => have := ih i; simp; omega
theorem take_join (e : E) (hk : ∀ k ∈ e.kids, k.szOk) (i : Nat) : (joinB ((e.kids.map fun k => k.text (!decide (e.op = 97))).take i) e.sep).size ≤ 16 * (e.cnt - 1) := by
  refine Nat.le_trans (join_size _ _) ?_
  rw [List.map_take]
  refine Nat.le_trans (take_sum _ _) ?_
  rw [List.map_map, cnt_eq e, Nat.add_sub_cancel_left, ← sum_mul]
  have := sep_size e
  exact sum_le _ _ _ fun k hk' => by have := hk k hk' (!decide (e.op = 97)); simp; omega
theorem text_sep (e : E) (h1 : ¬ e.op = 110) (h0 : ¬ (e.op = 115 ∧ e.kids = [])) : e.text false = joinB (e.kids.map fun k => k.text (!decide (e.op = 97))) e.sep ++ (if e.op = 115 ∨ e.op = 97 then ⟨#[]⟩ else Utf8.encode (wr .i32 e.op)) := by
  have ha : ∀ s : ByteArray, s ++ ⟨#[]⟩ = s := fun s => bytes_ext (by simp [ByteArray.data_append])
  rw [text_eq, if_neg h1]
  by_cases h2 : e.op = 115
  · have h3 : ¬ e.kids = [] := fun h => h0 ⟨h2, h⟩
    simp [h2, h3, E.sep, par, ha]
  · by_cases h4 : e.op = 97
    · simp [h4, E.sep, par, ha]
    · simp [h2, h4, E.sep]
end Go.Proofs.D
