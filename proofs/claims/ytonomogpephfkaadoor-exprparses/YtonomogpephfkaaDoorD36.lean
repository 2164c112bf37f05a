/-
  THE SECOND ANSWER: printed; a text, cut at a sign.
-/
import Derived.Test.YtonomogpephfkaaDoorD35
import Derived.Test.YtonomogpephfkaaDoorL6
set_option linter.unusedVariables false
set_option linter.unusedSimpArgs false
set_option linter.unusedSimpArgs false
namespace Go.Proofs.D
open Go Go.Abs
attribute [local simp] VC stepV stepTop stepReg stepOp stMove stPick stBin stUn stConv stBox stAlloc stLoad stStore stFieldAddr stField stExtract stNilCheck stMakeFunc stIndexAddr stIndex stLen
  stBuild placesOf fillA stBuildSlice sliceCells repL chunks allPV toPV drawOk drawOk.go mayMakeO mayMake1 disjoint pairOk Oper.apart Oper.looksAt Op.operands Call.operands Region.binds stAppend appBase appTail unName stSlice bndA
  LS.ev LS.get LS.blk LS.put LS.app LS.upd lkS lkH setS setH Nm.eqb guardOf nexts okPair dstOk AV.cellsOf takeAt putAt lkT sliceE fieldT intK isStrT isBoolT abin newOk LS.freshB LS.freshB.go LS.freshB.goH notIn AV.ments AV.ments.mentsL Blk.ments makes upsMents LS.start startL exitTo T Nat.blt
  conv convS convH srcs srcOf blkOk leA leA.leL leB leP laid laidM isArg subH retP resAV resL res1 AV.frz AV.frz.frzL evL AV.ren AV.ren.renL Blk.ren renBs blksOf allSome nodupB onlyArgs blksMents callUps keyed inName inName.go backName callSide
theorem f30 (Gl : Granted) (e : E) (hs : e.small) (hc : e.cnt ≤ 1000000) : Fun Tryd.prog Gl 30 [e.av] [] (.tup [vS e.print.1, vI e.print.2]) [] := by
  refine fun_of (T := T) (n := 9) (rs := [.tmp 2, .tmp 3]) Tryd.func30 (by kernel_rfl) rfl rfl rfl tok mixed (by simp) fun C hC => ?_
  refine hC.vc [] 90 ?_
  simp [E.av, E.cells]
  refine hC.call [] (f56 Gl e hs) (by simp [E.av, E.cells]) ?_
  refine hC.vc [] 90 ?_
  cases hr : e.right with
  | false => simp [E.print, hr]
  | true =>
    have hok : e.ok = true := by simp [E.right] at hr; exact hr.2
    simp
    refine hC.call [] (f57 Gl e hok hc) (by simp [E.av, E.cells]) ?_
    refine hC.vc [] 90 ?_
    simp [E.print, hr]
/-- How deep in brackets, behind a sign. -/
def opn (c : Int) (o : Int) : Int := if c = 40 then o + 1 else if c = 41 then o - 1 else o
/-- A text cut at a sign that stands in no bracket. -/
def cutGo (sg : Int) : List UInt8 → Int → List UInt8 → List (List UInt8)
  | [], _, cur => [cur]
  | c :: r, o, cur => if (c.toNat : Int) = sg ∧ opn c.toNat o = 0 then cur :: cutGo sg r (opn c.toNat o) [] else cutGo sg r (opn c.toNat o) (cur ++ [c])
def cutB (sg : Int) (s : ByteArray) : List ByteArray := (cutGo sg s.data.toList 0 []).map B
theorem slice_B (s : ByteArray) (i j : Nat) : s.extract i j = B ((s.data.toList.take j).drop i) := by rw [← extract_list, B_data]
abbrev rowS (l : List ByteArray) : List (List PV) := l.map fun t => [.val (.string t)]
set_option maxRecDepth 20000 in
set_option maxHeartbeats 2000000 in
theorem f55 (Gl : Granted) (s : ByteArray) (sg : Int) (hs : s.size ≤ 1000000) : Fun Tryd.prog Gl 55 [vS s, .pv (.val (.int .u8 sg))] [] (.pv (.ro 1 (rowS (cutB sg s)))) [] := by
  refine fun_of (T := T) (n := 51) (rs := [.tmp 4]) Tryd.func55 (by kernel_rfl) rfl rfl rfl tok mixed (by simp) fun C hC => ?_
  refine hC.vc [] 90 ?_
  simp
  refine go_loop (ι := {x : Nat × Nat × Int × List (List UInt8) // x.1 ≤ s.size ∧ x.2.1 ≤ x.1 ∧ -x.1 ≤ x.2.2.1 ∧ x.2.2.1 ≤ x.1 ∧ x.2.2.2.length ≤ x.1 ∧ cutGo sg s.data.toList 0 [] = x.2.2.2 ++ cutGo sg (s.data.toList.drop x.1) x.2.2.1 ((s.data.toList.take x.1).drop x.2.1)})
    (fun x => ⟨[(0, vS s), (1, .pv (.val (.int .u8 sg))), (5, .own (.can 0)), (6, vI x.1.2.2.1), (7, vI x.1.2.1), (8, vI x.1.1)], [(.can 0, some (.row 9 1 (rowS (x.1.2.2.2.map B))))]⟩)
    (fun x => s.size - x.1.1) ⟨(0, 0, 0, []), by simp⟩ [(.can 0, .nil)] (by simp) fun x ih => ?_
  obtain ⟨⟨i, f, o, done⟩, hi, hf, ho1, ho2, hd, hg⟩ := x
  simp only at hi hf ho1 ho2 hd hg ih
  by_cases hlt : i < s.size
  · have hll : i < s.data.toList.length := by simpa using hlt
    have hbyte := byteAt_eq s i
    rw [List.drop_eq_getElem_cons hll] at hg
    simp only [cutGo] at hg
    have hw1 := wr64 ((i : Int) + 1) (by omega)
    have hw2 := wr64 (o + 1) (by omega)
    have hw0 := wr64 0 (by omega)
    have hw3 := wr64 (o - 1) (by omega)
    have hb : byteAt s i = ((s.data.toList[i]'hll).toNat : Int) := by
      rw [hbyte]
      simp only [Int.toNat_natCast]
      rw [List.getD_eq_getElem?_getD, List.getElem?_eq_getElem hll]
      rfl
    rw [← hb] at hg
    have htk : (s.data.toList.take (i + 1)).drop f = (s.data.toList.take i).drop f ++ [s.data.toList[i]'hll] := by
      rw [List.take_add_one, List.getElem?_eq_getElem hll, List.drop_append_of_le_length (by rw [List.length_take]; omega)]
      rfl
    have hsl := slice_B s f i
    by_cases h40 : byteAt s i = 40
    · have hq : opn (byteAt s i) o = o + 1 := by simp [opn, h40]
      by_cases hsg : (40 : Int) = sg
      · subst hsg
        by_cases h0 : o + 1 = 0
        · have hc' : byteAt s i = 40 ∧ opn (byteAt s i) o = 0 := ⟨by omega, by rw [hq]; exact h0⟩
          rw [if_pos hc', hq] at hg
          have hnil : (s.data.toList.take (i + 1)).drop (i + 1) = [] := List.drop_eq_nil_of_le (by rw [List.length_take]; omega)
          have hg' : cutGo (40 : Int) s.data.toList 0 [] = (done ++ [(s.data.toList.take i).drop f]) ++ cutGo (40 : Int) (s.data.toList.drop (i + 1)) 0 ((s.data.toList.take (i + 1)).drop (i + 1)) := by rw [hnil, hg, h0]; simp
          refine hC.vc [] 90 ?_
          simp [hlt, h40, hw2, h0, hw0]
          refine ⟨⟨by omega, by omega⟩, ⟨by omega, by omega⟩, ?_⟩
          exact go_to [(.can 0, .nm (.loc 42))] (ih ⟨(i + 1, i + 1, 0, done ++ [(s.data.toList.take i).drop f]), hlt, Nat.le_refl _, by dsimp only; omega, by dsimp only; omega, by simp; omega, hg'⟩ (by simp; omega)) (by simp [hsl, hw1])
        · have hc' : ¬ (byteAt s i = 40 ∧ opn (byteAt s i) o = 0) := fun h => h0 (by rw [hq] at h; exact h.2)
          rw [if_neg hc', hq, ← htk] at hg
          refine hC.vc [] 90 ?_
          simp [hlt, h40, hw2, h0, hw0]
          exact go_to [] (ih ⟨(i + 1, f, o + 1, done), hlt, by dsimp only; omega, by dsimp only; omega, by dsimp only; omega, by dsimp only; omega, hg⟩ (by simp; omega)) (by simp [hw1])
      · have hc' : ¬ (byteAt s i = sg ∧ opn (byteAt s i) o = 0) := fun h => hsg (by have := h.1; omega)
        rw [if_neg hc', hq, ← htk] at hg
        refine hC.vc [] 90 ?_
        simp [hlt, h40, hsg, hw2]
        exact go_to [] (ih ⟨(i + 1, f, o + 1, done), hlt, by dsimp only; omega, by dsimp only; omega, by dsimp only; omega, by dsimp only; omega, hg⟩ (by simp; omega)) (by simp [hw1])
    · by_cases h41 : byteAt s i = 41
      · have hq : opn (byteAt s i) o = o - 1 := by simp [opn, h41]
        by_cases hsg : (41 : Int) = sg
        · subst hsg
          by_cases h0 : o - 1 = 0
          · have hc' : byteAt s i = 41 ∧ opn (byteAt s i) o = 0 := ⟨by omega, by rw [hq]; exact h0⟩
            rw [if_pos hc', hq] at hg
            have hnil : (s.data.toList.take (i + 1)).drop (i + 1) = [] := List.drop_eq_nil_of_le (by rw [List.length_take]; omega)
            have hg' : cutGo (41 : Int) s.data.toList 0 [] = (done ++ [(s.data.toList.take i).drop f]) ++ cutGo (41 : Int) (s.data.toList.drop (i + 1)) 0 ((s.data.toList.take (i + 1)).drop (i + 1)) := by rw [hnil, hg, h0]; simp
            refine hC.vc [] 90 ?_
            simp [hlt, h41, hw3, h0, hw0]
            refine ⟨⟨by omega, by omega⟩, ⟨by omega, by omega⟩, ?_⟩
            exact go_to [(.can 0, .nm (.loc 42))] (ih ⟨(i + 1, i + 1, 0, done ++ [(s.data.toList.take i).drop f]), hlt, Nat.le_refl _, by dsimp only; omega, by dsimp only; omega, by simp; omega, hg'⟩ (by simp; omega)) (by simp [hsl, hw1])
          · have hc' : ¬ (byteAt s i = 41 ∧ opn (byteAt s i) o = 0) := fun h => h0 (by rw [hq] at h; exact h.2)
            rw [if_neg hc', hq, ← htk] at hg
            refine hC.vc [] 90 ?_
            simp [hlt, h41, hw3, h0, hw0]
            exact go_to [] (ih ⟨(i + 1, f, o - 1, done), hlt, by dsimp only; omega, by dsimp only; omega, by dsimp only; omega, by dsimp only; omega, hg⟩ (by simp; omega)) (by simp [hw1])
        · have hc' : ¬ (byteAt s i = sg ∧ opn (byteAt s i) o = 0) := fun h => hsg (by have := h.1; omega)
          rw [if_neg hc', hq, ← htk] at hg
          refine hC.vc [] 90 ?_
          simp [hlt, h41, hsg, hw3]
          exact go_to [] (ih ⟨(i + 1, f, o - 1, done), hlt, by dsimp only; omega, by dsimp only; omega, by dsimp only; omega, by dsimp only; omega, hg⟩ (by simp; omega)) (by simp [hw1])
      · have hq : opn (byteAt s i) o = o := by simp [opn, h40, h41]
        by_cases hsg : byteAt s i = sg
        · by_cases h0 : o = 0
          · have hc' : byteAt s i = sg ∧ opn (byteAt s i) o = 0 := ⟨by omega, by rw [hq]; exact h0⟩
            rw [if_pos hc', hq] at hg
            have hnil : (s.data.toList.take (i + 1)).drop (i + 1) = [] := List.drop_eq_nil_of_le (by rw [List.length_take]; omega)
            have hg' : cutGo sg s.data.toList 0 [] = (done ++ [(s.data.toList.take i).drop f]) ++ cutGo sg (s.data.toList.drop (i + 1)) 0 ((s.data.toList.take (i + 1)).drop (i + 1)) := by rw [hnil, hg, h0]; simp
            refine hC.vc [] 90 ?_
            simp [hlt, h40, h41, hsg, show ¬ sg = 40 by omega, show ¬ sg = 41 by omega, hw1, h0, hw0]
            refine ⟨⟨by omega, by omega⟩, ⟨by omega, by omega⟩, ?_⟩
            exact go_to [(.can 0, .nm (.loc 42))] (ih ⟨(i + 1, i + 1, 0, done ++ [(s.data.toList.take i).drop f]), hlt, Nat.le_refl _, by dsimp only; omega, by dsimp only; omega, by simp; omega, hg'⟩ (by simp; omega)) (by simp [hsl, hw1])
          · have hc' : ¬ (byteAt s i = sg ∧ opn (byteAt s i) o = 0) := fun h => h0 (by rw [hq] at h; exact h.2)
            rw [if_neg hc', hq, ← htk] at hg
            refine hC.vc [] 90 ?_
            simp [hlt, h40, h41, hsg, show ¬ sg = 40 by omega, show ¬ sg = 41 by omega, hw1, h0, hw0]
            exact go_to [] (ih ⟨(i + 1, f, o, done), hlt, by dsimp only; omega, by dsimp only; omega, by dsimp only; omega, by dsimp only; omega, hg⟩ (by simp; omega)) (by simp [hw1])
        · have hc' : ¬ (byteAt s i = sg ∧ opn (byteAt s i) o = 0) := fun h => hsg (by have := h.1; omega)
          rw [if_neg hc', hq, ← htk] at hg
          refine hC.vc [] 90 ?_
          simp [hlt, h40, h41, hsg, hw1]
          exact go_to [] (ih ⟨(i + 1, f, o, done), hlt, by dsimp only; omega, by dsimp only; omega, by dsimp only; omega, by dsimp only; omega, hg⟩ (by simp; omega)) (by simp [hw1])
  · have hi' : i = s.size := by omega
    rw [List.drop_eq_nil_of_le (by simpa using hlt)] at hg
    simp only [cutGo] at hg
    refine hC.vc [] 90 ?_
    simp [hlt]
    refine ⟨by omega, ⟨by omega, by omega⟩, ?_⟩
    rw [cutB, hg, hi']
    simp [rowS, slice_B]
end Go.Proofs.D
