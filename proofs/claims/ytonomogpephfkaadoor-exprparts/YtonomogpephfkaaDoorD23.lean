/-
  THE LAW ExprParts.
-/
import Derived.Test.YtonomogpephfkaaDoorD20
import Derived.Test.YtonomogpephfkaaDoorL3
set_option linter.unusedVariables false
set_option linter.unusedSimpArgs false
namespace Go.Proofs.D
open Go Go.Abs
attribute [local simp] VC stepV stepTop stepReg stepOp stMove stPick stBin stUn stConv stBox stAlloc stLoad stStore stFieldAddr stField stExtract stNilCheck stMakeFunc stIndexAddr stIndex stLen
  stBuild placesOf fillA stBuildSlice sliceCells repL chunks allPV toPV drawOk drawOk.go mayMakeO mayMake1 disjoint pairOk Oper.apart Oper.looksAt Op.operands Call.operands Region.binds stAppend appBase appTail unName stSlice bndA
  LS.ev LS.get LS.blk LS.put LS.app LS.upd lkS lkH setS setH Nm.eqb guardOf nexts okPair dstOk AV.cellsOf takeAt putAt lkT sliceE fieldT intK isStrT isBoolT abin newOk LS.freshB LS.freshB.go LS.freshB.goH notIn AV.ments AV.ments.mentsL Blk.ments makes upsMents LS.start startL exitTo T Nat.blt
  conv convS convH srcs srcOf blkOk leA leA.leL leB leP laid laidM isArg subH retP resAV resL res1 AV.frz AV.frz.frzL evL AV.ren AV.ren.renL Blk.ren renBs blksOf allSome nodupB onlyArgs blksMents callUps keyed inName inName.go backName callSide
theorem maxLen_eq3 : maxLen = 9223372036854775807 := rfl
set_option maxRecDepth 20000 in
set_option maxHeartbeats 4000000 in
theorem f6 (Gl : Granted) (e : E) (hs : e.small) (f : E) (hs' : f.small) (a b : Row) (ha : a.length ≤ 140737488355328) (hb : b.length ≤ 140737488355328) : Fun Tryd.prog Gl 6 [e.av, f.av, rowAV a, rowAV b] [] (vB true) [] := by
  refine fun_of (T := T) (n := 95) (rs := [.tmp 8]) Tryd.func6 (by kernel_rfl) rfl rfl rfl tok mixed (by simp) fun C hC => ?_
  refine hC.vc [] 60 ?_
  simp [E.av, E.cells]
  refine hC.call [] (f12 Gl) (by simp) ?_
  refine hC.vc [] 60 ?_
  simp
  refine hC.call [] (f16 Gl e 100) (by simp [E.av, E.cells]) ?_
  refine hC.vc [64] 60 ?_
  rcases light_neg e 100 with hl | hl
  · simp [hl]
  · have hl' : ¬ e.light 100 < 0 := by omega
    simp [hl']
    refine hC.call [] (f16 Gl f 100) (by simp [E.av, E.cells]) ?_
    rcases light_neg f 100 with hm | hm
    · refine hC.vc [64] 60 ?_
      simp [hm]
    · have hm' : ¬ f.light 100 < 0 := by omega
      have hw := wr64 ((a.length : Int) + b.length) (by omega)
      by_cases h30 : 30 < (a.length : Int) + b.length
      · refine hC.vc [64] 60 ?_
        simp [hm', hw, h30]
      · have hce := light_cnt e hs 100 (by omega) (by omega) hl
        have hcf := light_cnt f hs' 100 (by omega) (by omega) hm
        have hA : a.length + 1 < maxLen := by rw [maxLen_eq3]; omega
        have hAB : (a ++ b).length + 1 < maxLen := by rw [maxLen_eq3, List.length_append]; omega
        refine hC.vc [64] 31 ?_
        simp [hm', hw, h30, E.pv_eq e, E.pv_eq f]
        refine go_cut (ι := Unit) (fun _ => ⟨[(2, rowAV a), (3, rowAV b), (4, .ptr (.loc 4) 0), (5, .ptr (.loc 5) 0), (11, .ptr (.loc 11) 0)], [(.loc 4, some (.box 25 e.cells)), (.loc 5, some (.box 25 f.cells)), (.loc 11, some (.box 25 (pair 115 e f).cells))]⟩) (fun _ => ?_) (fun tail => ?_)
        · refine hC.vc [64] 20 ?_
          simp [E.cells, E.pv_eq e, E.pv_eq f]
          refine hC.call [] (f18 Gl (pair 115 e f) (pair_small hs hs')) (by simp [E.av, E.cells, E.op, E.name, E.kids, E.pv_eq e, E.pv_eq f]) ?_
          cases hr : (pair 115 e f).right with
          | false =>
            refine hC.vc [64] 60 ?_
            simp
          | true =>
            have hsq := seq_has (by omega) (by omega) hr (a ++ b)
            refine hC.vc [64] 25 ?_
            simp
            refine ⟨by omega, by omega, ?_⟩
            refine go_loop (ι := {i : Nat // i ≤ (a ++ b).length + 1}) (fun x => ⟨[(4, .ptr (.loc 4) 0), (5, .ptr (.loc 5) 0), (11, .ptr (.loc 11) 0), (12, rowAV (a ++ b)), (13, vB (metB e f (a ++ b) x.1)), (14, vI x.1)],
              [(.loc 4, some (.box 25 e.cells)), (.loc 5, some (.box 25 f.cells)), (.loc 11, some (.box 25 (pair 115 e f).cells))]⟩) (fun x => (a ++ b).length + 1 - x.1) ⟨0, by omega⟩ [] (by simp [E.cells, E.op, E.name, E.kids, E.pv_eq e, E.pv_eq f, metB]) fun x ih => ?_
            obtain ⟨i, hi⟩ := x
            simp only at ih hi
            generalize hrow : a ++ b = row at *
            have hlr : row.length ≤ 30 := by rw [← hrow, List.length_append]; omega
            have hw1 := wr64 ((i : Int) + 1) (by omega)
            by_cases hlt : (i : Int) ≤ (row.length : Int)
            · have hi1 : row.length + 1 - (i + 1) < row.length + 1 - i := by omega
              have hT : (row.take i).length + 1 < maxLen := by rw [maxLen_eq3, List.length_take]; omega
              have hD : (row.drop i).length + 1 < maxLen := by rw [maxLen_eq3, List.length_drop]; omega
              have hms := metB_succ e f row i
              have hdt : (row.map fun s => [PV.val (Value.string s)]).take row.length = row.map fun s => [PV.val (Value.string s)] := List.take_of_length_le (by simp)
              refine hC.vc [] 60 ?_
              cases hmb : metB e f row i with
              | true =>
                rw [hmb, Bool.true_or] at hms
                simp [hlt]
                exact go_to [] (ih ⟨i + 1, by omega⟩ hi1) (by simp [hw1, hms, E.cells, E.op, E.name, E.kids, E.pv_eq e, E.pv_eq f])
              | false =>
                rw [hmb, Bool.false_or] at hms
                simp [hlt, E.cells]
                refine hC.call [] (f20 Gl e hs (row.take i) hT) (by simp [E.av, E.cells, E.op, E.name, E.kids, E.pv_eq e, E.pv_eq f]) ?_
                refine hC.vc [] 60 ?_
                cases he1 : e.has (row.take i) with
                | false =>
                  rw [he1, Bool.false_and] at hms
                  simp
                  exact go_to [] (ih ⟨i + 1, by omega⟩ hi1) (by simp [hw1, hms, E.cells, E.op, E.name, E.kids, E.pv_eq e, E.pv_eq f])
                | true =>
                  rw [he1, Bool.true_and] at hms
                  simp [hlt]
                  refine hC.call [] (f20 Gl f hs' (row.drop i) hD) (by simp [E.av, hdt, E.cells, E.op, E.name, E.kids, E.pv_eq e, E.pv_eq f]) ?_
                  refine hC.vc [] 60 ?_
                  simp
                  exact go_to [] (ih ⟨i + 1, by omega⟩ hi1) (by simp [hw1, hms, E.cells, E.op, E.name, E.kids, E.pv_eq e, E.pv_eq f])
            · have hie : i = row.length + 1 := by omega
              subst hie
              refine hC.vc [] 60 ?_
              have hlt' : ¬ ((row.length : Int) + 1 ≤ row.length) := by omega
              simp [hlt', E.cells]
              refine hC.call [] (f20 Gl (pair 115 e f) (pair_small hs hs') row hAB) (by simp [E.av, E.cells, E.op, E.name, E.kids, E.pv_eq e, E.pv_eq f]) ?_
              rw [hsq]
              refine hC.vc [] 60 ?_
              simp
        · refine hC.vc [64] 20 ?_
          simp
          refine hC.call [] (f18 Gl (pair 97 e f) (pair_small hs hs')) (by simp [E.av, E.cells, E.op, E.name, E.kids, E.pv_eq e, E.pv_eq f]) ?_
          cases hr : (pair 97 e f).right with
          | false =>
            refine hC.vc [] 17 ?_
            simp
            exact go_to [] (tail ()) (by simp [E.cells, E.op, E.name, E.kids, E.pv_eq e, E.pv_eq f])
          | true =>
            have hal := alt_has (by omega) (by omega) hr a
            refine hC.vc [] 20 ?_
            simp
            refine hC.call [] (f20 Gl (pair 97 e f) (pair_small hs hs') a hA) (by simp [E.av, E.cells, E.op, E.name, E.kids, E.pv_eq e, E.pv_eq f]) ?_
            rw [hal]
            refine hC.vc [] 20 ?_
            simp
            refine hC.call [] (f20 Gl e hs a hA) (by simp [E.av, E.cells, E.op, E.name, E.kids, E.pv_eq e, E.pv_eq f]) ?_
            cases he1 : e.has a with
            | true =>
              refine hC.vc [] 10 ?_
              simp
              exact go_to [] (tail ()) (by simp [E.cells, E.op, E.name, E.kids, E.pv_eq e, E.pv_eq f])
            | false =>
              refine hC.vc [] 20 ?_
              simp
              refine hC.call [] (f20 Gl f hs' a hA) (by simp [E.av, E.cells, E.op, E.name, E.kids, E.pv_eq e, E.pv_eq f]) ?_
              refine hC.vc [] 6 ?_
              simp
              exact go_to [] (tail ()) (by simp [E.cells, E.op, E.name, E.kids, E.pv_eq e, E.pv_eq f])
end Go.Proofs.D
