/-
  THE LAW ExprGrows.
-/
import Derived.Test.YtonomogpephfkaaDoorD20
import Derived.Test.YtonomogpephfkaaDoorL2
set_option linter.unusedVariables false
set_option linter.unusedSimpArgs false
namespace Go.Proofs.D
open Go Go.Abs
attribute [local simp] VC stepV stepTop stepReg stepOp stMove stPick stBin stUn stConv stBox stAlloc stLoad stStore stFieldAddr stField stExtract stNilCheck stMakeFunc stIndexAddr stIndex stLen
  stBuild placesOf fillA stBuildSlice sliceCells repL chunks allPV toPV drawOk drawOk.go mayMakeO mayMake1 disjoint pairOk Oper.apart Oper.looksAt Op.operands Call.operands Region.binds stAppend appBase appTail unName stSlice bndA
  LS.ev LS.get LS.blk LS.put LS.app LS.upd lkS lkH setS setH Nm.eqb guardOf nexts okPair dstOk AV.cellsOf takeAt putAt lkT sliceE fieldT intK isStrT isBoolT abin newOk LS.freshB LS.freshB.go LS.freshB.goH notIn AV.ments AV.ments.mentsL Blk.ments makes upsMents LS.start startL exitTo T Nat.blt
  conv convS convH srcs srcOf blkOk leA leA.leL leB leP laid laidM isArg subH retP resAV resL res1 AV.frz AV.frz.frzL evL AV.ren AV.ren.renL Blk.ren renBs blksOf allSome nodupB onlyArgs blksMents callUps keyed inName inName.go backName callSide
theorem maxLen_eq : maxLen = 9223372036854775807 := rfl
/-- Has, of a row that is nil. -/
theorem f20n (Gl : Granted) (e : E) (hs : e.small) : Fun Tryd.prog Gl 20 [e.av, .pv (.nilS 0)] [] (vB (e.has [])) [] :=
  fun_args (f20 Gl e hs [] (by decide)) rfl nil_row
/-- Has, of a row of the caller's own. -/
theorem f20o (Gl : Granted) (e : E) (hs : e.small) (w : Row) (hw : w.length + 1 < maxLen) : Fun Tryd.prog Gl 20 [e.av, .own (.arg 0)] [some (.row 9 1 (w.map fun s => [.val (.string s)]))] (vB (e.has w)) [none] :=
  fun_ownRow (a := [e.av]) (b := []) (by simp [E.av, E.cells, AV.ments, AV.ments.mentsL]) rfl (f20 Gl e hs w hw)
set_option maxRecDepth 20000 in
set_option maxHeartbeats 4000000 in
theorem f5 (Gl : Granted) (e : E) (hs : e.small) (a b : Row) (ha : a.length ≤ 140737488355328) (hb : b.length ≤ 140737488355328) : Fun Tryd.prog Gl 5 [e.av, rowAV a, rowAV b] [] (vB true) [] := by
  refine fun_of (T := T) (n := 103) (rs := [.tmp 6]) Tryd.func5 (by kernel_rfl) rfl rfl rfl tok mixed (by simp) fun C hC => ?_
  refine hC.vc [] 60 ?_
  simp [E.av, E.cells]
  refine hC.call [] (f12 Gl) (by simp) ?_
  refine hC.vc [] 60 ?_
  simp
  refine hC.call [] (f16 Gl e 300) (by simp [E.av, E.cells]) ?_
  refine hC.vc [96] 60 ?_
  rcases light_neg e 300 with hl | hl
  · simp [hl]
  · have hl' : ¬ e.light 300 < 0 := by omega
    have hw := wr64 ((a.length : Int) + b.length) (by omega)
    by_cases h40 : 40 < (a.length : Int) + b.length
    · simp [hl', hw, h40]
    · simp [hl', hw, h40, E.pv_eq e]
      have hcnt := light_cnt e hs 300 (by omega) (by omega) hl
      have hmc := many_cnt e (by omega)
      have hA : a.length + 1 < maxLen := by rw [maxLen_eq]; omega
      have hB : b.length + 1 < maxLen := by rw [maxLen_eq]; omega
      have hAB : (a ++ b).length + 1 < maxLen := by rw [maxLen_eq, List.length_append]; omega
      refine hC.call [] (f18 Gl (suf 42 e) (suf_small hs)) (by simp [E.av, E.cells, E.op, E.name, E.kids, E.pv_eq e]) ?_
      refine hC.vc [96] 60 ?_
      cases hr : (suf 42 e).right with
      | false =>
        simp
        refine hC.call [] (f20 Gl (suf 42 e) (suf_small hs) a hA) (by simp [E.av, E.cells, E.op, E.name, E.kids, E.pv_eq e]) ?_
        rw [has_not hr]
        refine hC.vc [96] 60 ?_
        simp
      | true =>
        have he := suf_right_of (.inl rfl) (by omega) hr
        have hp := suf_right (o' := 43) (.inl rfl) (.inr (.inl rfl)) hr
        have ho := suf_right (o' := 63) (.inl rfl) (.inr (.inr rfl)) hr
        have sN : (suf 42 e).has [] = true := (has_iff hr _).2 ((star_L _ _).2 (.inl rfl))
        have oN : (suf 63 e).has [] = true := (has_iff ho _).2 ((opt_L _ _).2 (.inl rfl))
        have pN : (suf 43 e).has [] = e.has [] := by
          rw [Bool.eq_iff_iff, has_iff hp, has_iff he, plus_L]
          exact ⟨fun h => h.nil rfl, .one⟩
        simp
        refine hC.call [] (f20 Gl (e) hs a hA) (by simp [E.av, E.cells, E.op, E.name, E.kids, E.pv_eq e]) ?_
        refine hC.vc [96] 60 ?_
        cases one : e.has a with
        | true =>
          have sA : (suf 42 e).has a = true := (has_iff hr _).2 ((star_L _ _).2 (.inr (.one ((has_iff he _).1 one))))
          have pA : (suf 43 e).has a = true := (has_iff hp _).2 ((plus_L _ _).2 (.one ((has_iff he _).1 one)))
          have oA : (suf 63 e).has a = true := (has_iff ho _).2 ((opt_L _ _).2 (.inr ((has_iff he _).1 one)))
          simp
          refine hC.call [] (f20 Gl (suf 42 e) (suf_small hs) a hA) (by simp [E.av, E.cells, E.op, E.name, E.kids, E.pv_eq e]) ?_
          rw [sA]
          refine hC.vc [96] 60 ?_
          simp
          refine hC.call [] (f20 Gl (suf 43 e) (suf_small hs) a hA) (by simp [E.av, E.cells, E.op, E.name, E.kids, E.pv_eq e]) ?_
          rw [pA]
          refine hC.vc [96] 60 ?_
          simp
          refine hC.call [] (f20 Gl (suf 63 e) (suf_small hs) a hA) (by simp [E.av, E.cells, E.op, E.name, E.kids, E.pv_eq e]) ?_
          rw [oA]
          refine hC.vc [96] 60 ?_
          simp
          refine hC.call [] (f20n Gl (suf 42 e) (suf_small hs)) (by simp [E.av, E.cells, E.op, E.name, E.kids, E.pv_eq e]) ?_
          rw [sN]
          refine hC.vc [96] 60 ?_
          simp
          refine hC.call [] (f20n Gl (suf 63 e) (suf_small hs)) (by simp [E.av, E.cells, E.op, E.name, E.kids, E.pv_eq e]) ?_
          rw [oN]
          refine hC.vc [96] 60 ?_
          simp
          refine hC.call [] (f20n Gl (suf 43 e) (suf_small hs)) (by simp [E.av, E.cells, E.op, E.name, E.kids, E.pv_eq e]) ?_
          rw [pN]
          refine hC.vc [96] 60 ?_
          simp
          refine hC.call [] (f20n Gl (e) hs) (by simp [E.av, E.cells, E.op, E.name, E.kids, E.pv_eq e]) ?_
          refine hC.vc [96] 60 ?_
          cases hn : e.has [] <;> simp
          all_goals
            refine hC.call [] (f20 Gl (suf 42 e) (suf_small hs) a hA) (by simp [E.av, E.cells, E.op, E.name, E.kids, E.pv_eq e]) ?_
            rw [sA]
            refine hC.vc [96] 60 ?_
            simp
            refine hC.call [] (f20 Gl (suf 42 e) (suf_small hs) b hB) (by simp [E.av, E.cells, E.op, E.name, E.kids, E.pv_eq e]) ?_
            refine hC.vc [96] 60 ?_
            cases sB : (suf 42 e).has b with
            | false => simp
            | true =>
              have sAB : (suf 42 e).has (a ++ b) = true := star_append hr sA sB
              simp
              refine ⟨by omega, by omega, ?_⟩
              refine hC.call [.loc 100] (f20o Gl (suf 42 e) (suf_small hs) (a ++ b) hAB) (by simp [E.av, E.cells, E.op, E.name, E.kids, E.pv_eq e]) ?_
              rw [sAB]
              refine hC.vc [96] 60 ?_
              simp
        | false =>
          simp
          refine hC.call [] (f20n Gl (suf 42 e) (suf_small hs)) (by simp [E.av, E.cells, E.op, E.name, E.kids, E.pv_eq e]) ?_
          rw [sN]
          refine hC.vc [96] 60 ?_
          simp
          refine hC.call [] (f20n Gl (suf 63 e) (suf_small hs)) (by simp [E.av, E.cells, E.op, E.name, E.kids, E.pv_eq e]) ?_
          rw [oN]
          refine hC.vc [96] 60 ?_
          simp
          refine hC.call [] (f20n Gl (suf 43 e) (suf_small hs)) (by simp [E.av, E.cells, E.op, E.name, E.kids, E.pv_eq e]) ?_
          rw [pN]
          refine hC.vc [96] 60 ?_
          simp
          refine hC.call [] (f20n Gl (e) hs) (by simp [E.av, E.cells, E.op, E.name, E.kids, E.pv_eq e]) ?_
          refine hC.vc [96] 60 ?_
          cases hn : e.has [] <;> simp
          all_goals
            refine hC.call [] (f20 Gl (suf 42 e) (suf_small hs) a hA) (by simp [E.av, E.cells, E.op, E.name, E.kids, E.pv_eq e]) ?_
            refine hC.vc [96] 60 ?_
            cases sA : (suf 42 e).has a with
            | false => simp
            | true =>
              simp
              refine hC.call [] (f20 Gl (suf 42 e) (suf_small hs) b hB) (by simp [E.av, E.cells, E.op, E.name, E.kids, E.pv_eq e]) ?_
              refine hC.vc [96] 60 ?_
              cases sB : (suf 42 e).has b with
              | false => simp
              | true =>
                have sAB : (suf 42 e).has (a ++ b) = true := star_append hr sA sB
                simp
                refine ⟨by omega, by omega, ?_⟩
                refine hC.call [.loc 100] (f20o Gl (suf 42 e) (suf_small hs) (a ++ b) hAB) (by simp [E.av, E.cells, E.op, E.name, E.kids, E.pv_eq e]) ?_
                rw [sAB]
                refine hC.vc [96] 60 ?_
                simp
end Go.Proofs.D
