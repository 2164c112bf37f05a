/-
  THE SECOND ANSWER: an expression is read.
-/
import Derived.Test.YtonomogpephfkaaDoorD37
set_option linter.unusedVariables false
set_option linter.unusedSimpArgs false
set_option linter.unusedSimpArgs false
namespace Go.Proofs.D
open Go Go.Abs
attribute [local simp] VC stepV stepTop stepReg stepOp stMove stPick stBin stUn stConv stBox stAlloc stLoad stStore stFieldAddr stField stExtract stNilCheck stMakeFunc stIndexAddr stIndex stLen
  stBuild placesOf fillA stBuildSlice sliceCells repL chunks allPV toPV drawOk drawOk.go mayMakeO mayMake1 disjoint pairOk Oper.apart Oper.looksAt Op.operands Call.operands Region.binds stAppend appBase appTail unName stSlice bndA
  LS.ev LS.get LS.blk LS.put LS.app LS.upd lkS lkH setS setH Nm.eqb guardOf nexts okPair dstOk AV.cellsOf takeAt putAt lkT sliceE fieldT intK isStrT isBoolT abin newOk LS.freshB LS.freshB.go LS.freshB.goH notIn AV.ments AV.ments.mentsL Blk.ments makes upsMents LS.start startL exitTo T Nat.blt
  conv convS convH srcs srcOf blkOk leA leA.leL leB leP laid laidM isArg subH retP resAV resL res1 AV.frz AV.frz.frzL evL AV.ren AV.ren.renL Blk.ren renBs blksOf allSome nodupB onlyArgs blksMents callUps keyed inName inName.go backName callSide
theorem cutGo_sum (sg : Int) : ∀ (r : List UInt8) (o : Int) (cur : List UInt8), ((cutGo sg r o cur).map fun t => t.length + 1).sum = r.length + cur.length + 1
  | [], o, cur => by simp [cutGo]
  | c :: r, o, cur => by
    simp only [cutGo]
    split
    · simp only [List.map_cons, List.sum_cons, cutGo_sum sg r _ []]
      simp
      omega
    · rw [cutGo_sum sg r _ _]
      simp
      omega
theorem sum_double (l : List (List UInt8)) : (l.map fun t => 2 * t.length + 1).sum + l.length = 2 * (l.map fun t => t.length + 1).sum := by
  induction l with
  | nil => rfl
  | cons x l ih => simp at ih ⊢; omega
/-- What is read is no more than the text. -/
theorem rdE_made : ∀ (n : Nat) (s : List UInt8), s.length ≤ 1000 → (rdE n s).small ∧ (rdE n s).cnt ≤ 2 * s.length + 1
  | 0, s, hs => ⟨E.small_mk (by decide) (by simp), by simp [rdE, none_cnt]⟩
  | n + 1, s, hs => by
    have hcut : ∀ (op : Int) (sg : Int), 1 < (cutL sg s).length → (E.mk op ⟨#[]⟩ (if (cutL sg s).length < 30 then (cutL sg s).map (rdE n) else [])).small ∧ (E.mk op ⟨#[]⟩ (if (cutL sg s).length < 30 then (cutL sg s).map (rdE n) else [])).cnt ≤ 2 * s.length + 1 := by
      intro op sg h
      split
      · constructor
        · refine E.small_mk (by decide) fun k hk => ?_
          obtain ⟨t, ht, rfl⟩ := List.mem_map.1 hk
          have := cutGo_mem sg s 0 [] t ht
          exact (rdE_made n t (by simp at this; omega)).1
        · rw [cnt_eq]
          have h1 : ((E.mk op ⟨#[]⟩ ((cutL sg s).map (rdE n))).kids.map E.cnt).sum ≤ ((cutL sg s).map fun t => 2 * t.length + 1).sum := by
            show (((cutL sg s).map (rdE n)).map E.cnt).sum ≤ _
            rw [List.map_map]
            have : ∀ l : List (List UInt8), (∀ t ∈ l, t ∈ cutL sg s) → (l.map (E.cnt ∘ rdE n)).sum ≤ (l.map fun t => 2 * t.length + 1).sum := by
              intro l
              induction l with
              | nil => simp
              | cons x l ih =>
                intro hm
                have h2 := ih fun t ht => hm t (by simp [ht])
                have h3 := cutGo_mem sg s 0 [] x (hm x (by simp))
                have h4 := (rdE_made n x (by simp at h3; omega)).2
                simp at h2 ⊢
                omega
            exact this _ fun _ h => h
          have h2 := sum_double (cutL sg s)
          have h3 := cutGo_sum sg s 0 []
          simp only [List.length_nil, Nat.add_zero] at h3
          have h4 : ((cutL sg s).map fun t => t.length + 1).sum = s.length + 1 := h3
          omega
      · exact ⟨E.small_mk (by decide) (by simp), by rw [cnt_eq]; simp [E.kids]⟩
    rw [rdE]
    split
    · exact ⟨E.small_mk (by decide) (by simp), by simp [none_cnt]⟩
    · rename_i h0
      have hp : 0 < s.length := List.length_pos_iff.2 h0
      split
      · exact hcut _ _ ‹_›
      · split
        · exact hcut _ _ ‹_›
        · split
          · have hk := rdE_made n s.dropLast (by simp; omega)
            simp only [List.length_dropLast] at hk
            exact ⟨E.small_mk (by decide) (by simpa using hk.1), by rw [cnt_eq]; simp [E.kids]; omega⟩
          · split
            · exact ⟨E.small_mk (by decide) (by simp), by rw [cnt_eq]; simp [E.kids]⟩
            · split
              · have hk := rdE_made n s.tail.dropLast (by simp; omega)
                simp only [List.length_dropLast, List.length_tail] at hk
                exact ⟨hk.1, by omega⟩
              · exact ⟨E.small_mk (by rw [B_size]; omega) (by simp), by rw [cnt_eq]; simp [E.kids]⟩
/-- The expression of a text, and an error's number. -/
def rparse (s : ByteArray) : E × Int := if (rdE 100 s.data.toList).right = true ∧ (rdE 100 s.data.toList).text false = s then (rdE 100 s.data.toList, 0) else (E.none, 2)
set_option maxRecDepth 20000 in
theorem f14 (Gl : Granted) (s : ByteArray) (hs : s.size ≤ 900) : Fun Tryd.prog Gl 14 [vS s] [] (.tup [(rparse s).1.av, vI (rparse s).2]) [] := by
  have hl : s.data.toList.length = s.size := by simp
  have hm := rdE_made 100 s.data.toList (by omega)
  have hf := f29 Gl 100 s.data.toList (by omega) (by omega)
  rw [B_data] at hf
  have hp : rparse s = if (rdE 100 s.data.toList).right = true ∧ (rdE 100 s.data.toList).text false = s then (rdE 100 s.data.toList, 0) else (E.none, 2) := rfl
  rw [hp]
  generalize rdE 100 s.data.toList = e at hm hf ⊢
  have h1 : ¬ 1000 < (s.size : Int) := by omega
  refine fun_of (T := T) (n := 27) (rs := [.cell 2 31, .tmp 3]) Tryd.func14 (by kernel_rfl) rfl rfl rfl tok mixed (by simp) fun C hC => ?_
  refine hC.vc [] 60 ?_
  simp [h1]
  refine hC.call [] hf (by simp [E.av, E.cells]) ?_
  refine hC.vc [] 60 ?_
  simp [E.av, E.cells]
  refine hC.call [] (f30 Gl e hm.1 (by omega)) (by simp [E.av, E.cells]) ?_
  refine hC.vc [] 60 ?_
  cases hr : e.right with
  | false => simp [E.print, hr, E.none, E.op, E.name, E.kids, E.av, E.cells]
  | true =>
    by_cases ht : e.text false = s
    · simp [E.print, hr, ht, E.av, E.cells]
    · simp [E.print, hr, ht, E.none, E.op, E.name, E.kids, E.av, E.cells]
end Go.Proofs.D
