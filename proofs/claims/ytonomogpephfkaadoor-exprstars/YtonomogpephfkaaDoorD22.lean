/-
  THE LAW ExprStars.
-/
import Derived.Test.YtonomogpephfkaaDoorD20
import Derived.Test.YtonomogpephfkaaDoorL2
set_option linter.unusedVariables false
set_option linter.unusedSimpArgs false
namespace Go.Proofs.D
open Go Go.Abs
attribute [local simp] VC stepV stepTop stepReg stepOp stMove stPick stBin stUn stConv stBox stAlloc stLoad stStore stFieldAddr stField stExtract stNilCheck stMakeFunc stIndexAddr stIndex stLen
  stBuild placesOf fillA stBuildSlice sliceCells repL chunks allPV toPV drawOk drawOk.go mayMakeO mayMake1 disjoint pairOk Oper.apart Oper.looksAt Op.operands Call.operands Region.binds stAppend appBase appTail unName stSlice bndA
  LS.ev LS.get LS.blk LS.put LS.app LS.upd lkS lkH setS setH Nm.eqb guardOf nexts okPair dstOk AV.cellsOf takeAt putAt lkT sliceE fieldT intK isStrT isBoolT abin newOk LS.freshB LS.freshB.go LS.freshB.goH notIn AV.ments AV.ments.mentsL Blk.ments makes upsMents LS.start startL exitTo T Nat.blt
  conv convS convH srcs srcOf blkOk leA leA.leL leB leP laid laidM isArg subH retP resAV resL res1 AV.frz AV.frz.frzL evL AV.ren AV.ren.renL Blk.ren renBs blksOf allSome nodupB onlyArgs blksMents callUps keyed inName inName.go backName callSide
theorem maxLen_eq' : maxLen = 9223372036854775807 := rfl
theorem f20nil (Gl : Granted) (e : E) (hs : e.small) : Fun Tryd.prog Gl 20 [e.av, .pv (.nilS 0)] [] (vB (e.has [])) [] :=
  fun_args (f20 Gl e hs [] (by decide)) rfl nil_row
set_option maxRecDepth 20000 in
set_option maxHeartbeats 4000000 in
theorem f7 (Gl : Granted) (e : E) (hs : e.small) (a b : Row) (ha : a.length ≤ 140737488355328) (hb : b.length ≤ 140737488355328) : Fun Tryd.prog Gl 7 [e.av, rowAV a, rowAV b] [] (vB true) [] := by
  refine fun_of (T := T) (n := 78) (rs := [.tmp 6]) Tryd.func7 (by kernel_rfl) rfl rfl rfl tok mixed (by simp) fun C hC => ?_
  refine hC.vc [] 60 ?_
  simp [E.av, E.cells]
  refine hC.call [] (f12 Gl) (by simp) ?_
  refine hC.vc [] 60 ?_
  simp
  refine hC.call [] (f16 Gl e 100) (by simp [E.av, E.cells]) ?_
  refine hC.vc [37] 60 ?_
  rcases light_neg e 100 with hl | hl
  · simp [hl]
  · have hl' : ¬ e.light 100 < 0 := by omega
    have hw := wr64 ((a.length : Int) + b.length) (by omega)
    by_cases h30 : 30 < (a.length : Int) + b.length
    · simp [hl', hw, h30]
    · simp [hl', hw, h30, E.pv_eq e]
      have hcnt := light_cnt e hs 100 (by omega) (by omega) hl
      have hmc := many_cnt e (by omega)
      have hA : a.length + 1 < maxLen := by rw [maxLen_eq']; omega
      have hB : b.length + 1 < maxLen := by rw [maxLen_eq']; omega
      have hAB : (a ++ b).length + 1 < maxLen := by rw [maxLen_eq', List.length_append]; omega
      refine hC.call [] (f18 Gl (suf 42 e) (suf_small hs)) (by simp [E.av, E.cells, E.op, E.name, E.kids, E.pv_eq e]) ?_
      cases hr : (suf 42 e).right with
      | false =>
        refine hC.vc [37] 60 ?_
        simp
      | true =>
        have he := suf_right_of (.inl rfl) (by omega) hr
        have hp := suf_right (o' := 43) (.inl rfl) (.inr (.inl rfl)) hr
        have sN : (suf 42 e).has [] = true := (has_iff hr _).2 ((star_L _ _).2 (.inl rfl))
        have pAB : e.has a = true → (suf 42 e).has b = true → (suf 42 e).has (a ++ b) = true ∧ (suf 43 e).has (a ++ b) = true := fun h1 h2 => by
          have q1 := (has_iff he _).1 h1
          have q2 := (star_L _ _).1 ((has_iff hr _).1 h2)
          have q3 : Many e.L (a ++ b) := by
            rcases q2 with rfl | q2
            · rw [List.append_nil]; exact .one q1
            · exact .more q1 q2
          exact ⟨(has_iff hr _).2 ((star_L _ _).2 (.inr q3)), (has_iff hp _).2 ((plus_L _ _).2 q3)⟩
        have hfin : a ≠ [] → (suf 42 e).has a = (suf 43 e).has a := fun h => by
          rw [Bool.eq_iff_iff, has_iff hr, has_iff hp, star_L, plus_L]
          exact ⟨fun q => q.elim (fun q => absurd q h) id, .inr⟩
        refine hC.vc [37] 13 ?_
        simp
        refine ⟨by omega, by omega, ?_⟩
        refine go_cut (ι := Unit) (fun _ => ⟨[(1, rowAV a), (8, .ptr (.loc 8) 0), (9, .ptr (.loc 9) 0)], [(.loc 8, some (.box 25 (suf 42 e).cells)), (.loc 9, some (.box 25 (suf 43 e).cells))]⟩) (fun _ => ?_) (fun tail => ?_)
        · refine hC.vc [] 60 ?_
          simp [E.cells]
          refine hC.call [] (f20 Gl (suf 42 e) (suf_small hs) a hA) (by simp [E.av, E.cells, E.op, E.name, E.kids, E.pv_eq e]) ?_
          refine hC.vc [] 60 ?_
          by_cases h0 : a = []
          · subst h0
            rw [sN]
            simp
            refine hC.call [] (f20nil Gl (suf 42 e) (suf_small hs)) (by simp [E.av, E.cells, E.op, E.name, E.kids, E.pv_eq e]) ?_
            rw [sN]
            refine hC.vc [] 60 ?_
            simp
          · have h0' : ¬ (a.length : Int) = 0 := by
              have : 0 < a.length := List.length_pos_iff.2 h0
              omega
            rw [hfin h0]
            simp [h0, h0']
            refine hC.call [] (f20 Gl (suf 43 e) (suf_small hs) a hA) (by simp [E.av, E.cells, E.op, E.name, E.kids, E.pv_eq e]) ?_
            refine hC.vc [] 60 ?_
            simp
            refine hC.call [] (f20nil Gl (suf 42 e) (suf_small hs)) (by simp [E.av, E.cells, E.op, E.name, E.kids, E.pv_eq e]) ?_
            rw [sN]
            refine hC.vc [] 60 ?_
            simp
        · refine go_to (M := ⟨[(1, rowAV a), (2, rowAV b), (3, .ptr (.loc 3) 0), (8, .ptr (.loc 8) 0), (9, .ptr (.loc 9) 0), (10, rowAV (a ++ b))], [(.loc 3, some (.box 25 e.cells)), (.loc 8, some (.box 25 (suf 42 e).cells)), (.loc 9, some (.box 25 (suf 43 e).cells))]⟩) [] ?_ (by simp [E.cells, E.op, E.name, E.kids, E.pv_eq e])
          refine hC.vc [] 20 ?_
          simp [E.cells]
          refine hC.call [] (f20 Gl e hs a hA) (by simp [E.av, E.cells, E.op, E.name, E.kids, E.pv_eq e]) ?_
          cases one : e.has a with
          | false =>
            refine hC.vc [] 20 ?_
            simp
            exact go_to [] (tail ()) (by simp [E.cells, E.op, E.name, E.kids, E.pv_eq e])
          | true =>
            refine hC.vc [] 20 ?_
            simp
            refine hC.call [] (f20 Gl (suf 42 e) (suf_small hs) b hB) (by simp [E.av, E.cells, E.op, E.name, E.kids, E.pv_eq e]) ?_
            cases sB : (suf 42 e).has b with
            | false =>
              refine hC.vc [] 16 ?_
              simp
              exact go_to [] (tail ()) (by simp [E.cells, E.op, E.name, E.kids, E.pv_eq e])
            | true =>
              obtain ⟨g1, g2⟩ := pAB one sB
              refine hC.vc [] 20 ?_
              simp
              refine hC.call [] (f20 Gl (suf 42 e) (suf_small hs) (a ++ b) hAB) (by simp [E.av, E.cells, E.op, E.name, E.kids, E.pv_eq e]) ?_
              rw [g1]
              refine hC.vc [] 20 ?_
              simp
              refine hC.call [] (f20 Gl (suf 43 e) (suf_small hs) (a ++ b) hAB) (by simp [E.av, E.cells, E.op, E.name, E.kids, E.pv_eq e]) ?_
              rw [g2]
              refine hC.vc [] 6 ?_
              simp
              exact go_to [] (tail ()) (by simp [E.cells, E.op, E.name, E.kids, E.pv_eq e])
end Go.Proofs.D
