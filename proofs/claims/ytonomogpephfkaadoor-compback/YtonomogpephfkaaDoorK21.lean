/-
  COMPLEMENTS: where a quoted text, or a bracket, ends.
-/
import Derived.Test.YtonomogpephfkaaDoorK20
set_option linter.unusedVariables false
set_option linter.unusedSimpArgs false
set_option linter.unusedSimpArgs false
namespace Go.Proofs.D
open Go Go.Abs Go.RowKit
attribute [local simp] VC stepV stepTop stepReg stepOp stMove stPick stBin stUn stConv stBox stAlloc stLoad stStore stFieldAddr stField stExtract stNilCheck stMakeFunc stIndexAddr stIndex stLen
  stBuild placesOf fillA stBuildSlice sliceCells repL chunks allPV toPV drawOk drawOk.go mayMakeO mayMake1 disjoint pairOk Oper.apart Oper.looksAt Op.operands Call.operands Region.binds stAppend appBase appTail unName stSlice bndA
  LS.ev LS.get LS.blk LS.put LS.app LS.upd lkS lkH setS setH Nm.eqb guardOf nexts okPair dstOk AV.cellsOf takeAt putAt lkT sliceE fieldT intK isStrT isBoolT abin newOk LS.freshB LS.freshB.go LS.freshB.goH notIn AV.ments AV.ments.mentsL Blk.ments makes upsMents LS.start startL exitTo T T3 outs callSideO callSideD upsR backO freshAll argB onlyIO List.map List.append List.nil_append List.cons_append Nat.blt
  conv convS convH srcs srcOf blkOk leA leA.leL leB leP laid laidM isArg subH retP resAV resL res1 AV.frz AV.frz.frzL evL AV.ren AV.ren.renL Blk.ren renBs blksOf allSome nodupB onlyArgs blksMents callUps keyed inName inName.go backName callSide
theorem endGo_skip (o : Int) (q : Bool) (i : Nat) (l : Bs) : endGo o q true i l = endGo o q false (i + 1) (l.drop 1) := by
  cases l <;> simp [endGo]
set_option maxRecDepth 20000 in
set_option maxHeartbeats 4000000 in
theorem f76 (Gl : Granted) (l : Bs) (hl : l.length ≤ 9000000) : Fun Tryd.prog Gl 76 [vT l] [] (vI (endB l)) [] := by
  refine fun_of (T := T3) (n := 49) (rs := [.tmp 2]) Tryd.func76 (by kernel_rfl) rfl rfl rfl tok3 mixed (by simp) fun C hC => ?_
  refine hC.vc [] 60 ?_
  simp
  show GoS C _ _
  refine go_scope ?_
  show Go C (.top _ _)
  refine hC.vc [] 60 ?_
  simp
  refine go_loop (ι := {x : Nat × Int × Bool // x.1 ≤ l.length + 1 ∧ -(x.1 : Int) ≤ x.2.1 ∧ x.2.1 ≤ x.1 ∧ endB l = endGo x.2.1 x.2.2 false x.1 (l.drop x.1)}) (fun x => ⟨[(0, vT l), (3, vI x.1.2.1), (4, vB x.1.2.2), (5, vI x.1.1)], []⟩)
    (fun x => l.length + 2 - x.1.1) ⟨(0, 0, false), by simp [endB]⟩ [] (by simp) fun x ih => ?_
  obtain ⟨⟨i, o, q⟩, hi, ho1, ho2, hn⟩ := x
  simp only at hi ho1 ho2 hn ih
  have hw1 := wr64 ((i : Int) + 1) (by omega)
  have hw2 := wr64 ((i : Int) + 1 + 1) (by omega)
  have hwo := wr64 (o + 1) (by omega)
  have hwp := wr64 (o - 1) (by omega)
  have hw0 := wr64 0 (by omega)
  by_cases hlt : i < l.length
  · have hz0 := byteAt_of hlt
    have hd : l.drop i = l[i] :: l.drop (i + 1) := List.drop_eq_getElem_cons hlt
    generalize l[i] = c at hz0 hd
    obtain ⟨z, hz⟩ : ∃ z, byteAt (bytesOf l) (i : Int) = z := ⟨_, rfl⟩
    rw [hz] at hz0
    have l92 := u8_lit hz0 92
    have l34 := u8_lit hz0 34
    have l91 := u8_lit hz0 91
    have l93 := u8_lit hz0 93
    change z = 92 ↔ c = 92 at l92
    change z = 34 ↔ c = 34 at l34
    change z = 91 ↔ c = 91 at l91
    change z = 93 ↔ c = 93 at l93
    rw [hd] at hn
    -- behind a sign that is not passed over
    have fin : ∀ (o' : Int) (q' : Bool), stepS o q c = some (o', q') → ¬ (q = true ∧ c = 92) → endB l = if o' = 0 ∧ q' = false then i + 1 else endGo o' q' false (i + 1) (l.drop (i + 1)) := fun o' q' h1 h2 => by
      rw [hn, endGo, if_neg h2, h1]
    by_cases h92 : q = true ∧ z = 92
    · obtain ⟨hq, h92⟩ := h92
      have hr : endB l = endGo o q false (i + 2) (l.drop (i + 2)) := by
        rw [hn, endGo, if_pos ⟨hq, l92.1 h92⟩, endGo_skip, List.drop_drop]
      subst hq
      refine hC.vc [] 100 ?_
      simp [bytesOf_size, hlt, hz, h92]
      exact go_to [] (ih ⟨(i + 2, o, true), by dsimp only; omega, by dsimp only; omega, by dsimp only; omega, hr⟩ (by simp; omega)) (by simp [hw1, hw2]; omega)
    · have hq92 : ¬ (q = true ∧ c = 92) := fun h => h92 ⟨h.1, l92.2 h.2⟩
      by_cases h34 : z = 34
      · have hc := l34.1 h34
        have hf := fin o (!q) (by simp [stepS, hc]) hq92
        cases q with
        | true =>
          by_cases h0 : o = 0
          · rw [if_pos ⟨h0, rfl⟩] at hf
            rw [hf] at hC
            refine hC.vc [] 100 ?_
            simp [bytesOf_size, hlt, hz, h34, h0, hw1]
          · rw [if_neg (fun h => h0 h.1)] at hf
            refine hC.vc [] 100 ?_
            simp [bytesOf_size, hlt, hz, h34, h0]
            exact go_to [] (ih ⟨(i + 1, o, false), by dsimp only; omega, by dsimp only; omega, by dsimp only; omega, hf⟩ (by simp; omega)) (by simp [hw1])
        | false =>
          rw [if_neg (fun h => by simp at h)] at hf
          by_cases h0 : o = 0
          · refine hC.vc [] 100 ?_
            simp [bytesOf_size, hlt, hz, h34, h0]
            exact go_to [] (ih ⟨(i + 1, o, true), by dsimp only; omega, by dsimp only; omega, by dsimp only; omega, hf⟩ (by simp; omega)) (by simp [hw1, h0])
          · refine hC.vc [] 100 ?_
            simp [bytesOf_size, hlt, hz, h34, h0]
            exact go_to [] (ih ⟨(i + 1, o, true), by dsimp only; omega, by dsimp only; omega, by dsimp only; omega, hf⟩ (by simp; omega)) (by simp [hw1])
      · have hc34 : ¬ c = 34 := fun e => h34 (l34.2 e)
        cases q with
        | true =>
          have h92' : ¬ z = 92 := fun h => h92 ⟨rfl, h⟩
          have hr : endB l = endGo o true false (i + 1) (l.drop (i + 1)) := by
            rw [hn, endGo, if_neg hq92]
            simp [stepS, hc34]
          refine hC.vc [] 100 ?_
          simp [bytesOf_size, hlt, hz, h34, h92']
          exact go_to [] (ih ⟨(i + 1, o, true), by dsimp only; omega, by dsimp only; omega, by dsimp only; omega, hr⟩ (by simp; omega)) (by simp [hw1])
        | false =>
          by_cases h91 : z = 91
          · have hf := fin (o + 1) false (by simp [stepS, l91.1 h91]) hq92
            by_cases h0 : o + 1 = 0
            · rw [if_pos ⟨h0, rfl⟩] at hf
              rw [hf] at hC
              refine hC.vc [] 100 ?_
              simp [bytesOf_size, hlt, hz, h91, h0, hw1, hwo, hw0]
            · rw [if_neg (fun h => h0 h.1)] at hf
              refine hC.vc [] 100 ?_
              simp [bytesOf_size, hlt, hz, h91, h0, hwo]
              exact go_to [] (ih ⟨(i + 1, o + 1, false), by dsimp only; omega, by dsimp only; omega, by dsimp only; omega, hf⟩ (by simp; omega)) (by simp [hw1, hwo])
          · have hc91 : ¬ c = 91 := fun e => h91 (l91.2 e)
            by_cases h93 : z = 93
            · have hf := fin (o - 1) false (by simp [stepS, l93.1 h93]) hq92
              by_cases h0 : o - 1 = 0
              · rw [if_pos ⟨h0, rfl⟩] at hf
                rw [hf] at hC
                refine hC.vc [] 100 ?_
                simp [bytesOf_size, hlt, hz, h93, h0, hw1, hwp, hw0]
              · rw [if_neg (fun h => h0 h.1)] at hf
                refine hC.vc [] 100 ?_
                simp [bytesOf_size, hlt, hz, h93, h0, hwp]
                exact go_to [] (ih ⟨(i + 1, o - 1, false), by dsimp only; omega, by dsimp only; omega, by dsimp only; omega, hf⟩ (by simp; omega)) (by simp [hw1, hwp])
            · have hc93 : ¬ c = 93 := fun e => h93 (l93.2 e)
              have hf := fin o false (by simp [stepS, hc34, hc91, hc93]) hq92
              by_cases h0 : o = 0
              · rw [if_pos ⟨h0, rfl⟩] at hf
                rw [hf] at hC
                refine hC.vc [] 100 ?_
                simp [bytesOf_size, hlt, hz, h34, h91, h93, h0, hw1]
              · rw [if_neg (fun h => h0 h.1)] at hf
                refine hC.vc [] 100 ?_
                simp [bytesOf_size, hlt, hz, h34, h91, h93, h0]
                exact go_to [] (ih ⟨(i + 1, o, false), by dsimp only; omega, by dsimp only; omega, by dsimp only; omega, hf⟩ (by simp; omega)) (by simp [hw1])
  · have hr : endB l = 0 := by rw [hn, List.drop_eq_nil_of_le (by omega)]; rfl
    rw [hr] at hC
    refine hC.vc [] 60 ?_
    simp [bytesOf_size, hlt]
end Go.Proofs.D
