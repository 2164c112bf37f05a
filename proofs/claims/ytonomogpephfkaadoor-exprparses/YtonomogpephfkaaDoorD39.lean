/-
  THE LAW ExprParses.
-/
import Derived.Test.YtonomogpephfkaaDoorD26
import Derived.Test.YtonomogpephfkaaDoorL11
set_option linter.unusedVariables false
set_option linter.unusedSimpArgs false
namespace Go.Proofs.D
open Go Go.Abs
attribute [local simp] VC stepV stepTop stepReg stepOp stMove stPick stBin stUn stConv stBox stAlloc stLoad stStore stFieldAddr stField stExtract stNilCheck stMakeFunc stIndexAddr stIndex stLen
  stBuild placesOf fillA stBuildSlice sliceCells repL chunks allPV toPV drawOk drawOk.go mayMakeO mayMake1 disjoint pairOk Oper.apart Oper.looksAt Op.operands Call.operands Region.binds stAppend appBase appTail unName stSlice bndA
  LS.ev LS.get LS.blk LS.put LS.app LS.upd lkS lkH setS setH Nm.eqb guardOf nexts okPair dstOk AV.cellsOf takeAt putAt lkT sliceE fieldT intK isStrT isBoolT abin newOk LS.freshB LS.freshB.go LS.freshB.goH notIn AV.ments AV.ments.mentsL Blk.ments makes upsMents LS.start startL exitTo T Nat.blt
  conv convS convH srcs srcOf blkOk leA leA.leL leB leP laid laidM isArg subH retP resAV resL res1 AV.frz AV.frz.frzL evL AV.ren AV.ren.renL Blk.ren renBs blksOf allSome nodupB onlyArgs blksMents callUps keyed inName inName.go backName callSide
/-- Both readers answer alike. -/
theorem parse_rparse (s : ByteArray) (hs : s.size ≤ 900) : rparse s = parse s := by
  have hl : s.data.toList.length = s.size := by simp
  have hm := rdE_made 100 s.data.toList (by omega)
  rcases parse_sound s with h | ⟨h1, h2, h3⟩
  · unfold rparse
    split
    · rename_i hc
      exfalso
      have hcn : (rdE 100 s.data.toList).cnt ≤ 1000 := by
        have hr := hc.1
        simp [E.right] at hr
        have := many_cnt (rdE 100 s.data.toList) (by omega)
        omega
      have := parse_text _ hc.1 hcn
      rw [hc.2, h] at this
      have := congrArg Prod.snd this
      simp at this
    · exact h.symm
  · obtain ⟨a, hpc⟩ := parse_small s (by omega)
    generalize he : parse s = p at *
    obtain ⟨e, f⟩ := p
    simp only at h1 h2 h3 hpc
    subst h1
    have hok : e.ok = true := by simp [E.right] at h2; exact h2.2
    have h24 : e.cnt ≤ 24 := by
      simp [E.right] at h2
      have := many_cnt e (by omega)
      omega
    have hr : rdE 100 s.data.toList = e := by
      rw [← h3]
      exact (rd_text 24 e h24 hok (by omega)).1 100 (by omega)
    unfold rparse
    rw [hr, if_pos ⟨h2, h3⟩]
set_option maxRecDepth 20000 in
set_option maxHeartbeats 4000000 in
theorem f3 (Gl : Granted) (s : ByteArray) : Fun Tryd.prog Gl 3 [vS s] [] (vB true) [] := by
  refine fun_of (T := T) (n := 35) (rs := [.tmp 2]) Tryd.func3 (by kernel_rfl) rfl rfl rfl tok mixed (by simp) fun C hC => ?_
  refine hC.vc [] 60 ?_
  simp
  refine hC.call [] (f12 Gl) (by simp) ?_
  refine hC.vc [] 60 ?_
  simp
  by_cases h9 : 900 < (s.size : Int)
  · simp [h9]
  · simp [h9]
    have hq := parse_rparse s (by omega)
    have hx := f14 Gl s (by omega)
    rw [hq] at hx
    have hy := f13 Gl s (by omega)
    have hre := same_refl (parse s).1
    generalize parse s = p at hx hy hre
    obtain ⟨e, f⟩ := p
    dsimp only at hx hy hre
    refine hC.call [] hy (by simp [E.av, E.cells]) ?_
    refine hC.vc [] 60 ?_
    simp [E.av, E.cells]
    refine hC.call [] hx (by simp [E.av, E.cells]) ?_
    refine hC.vc [] 60 ?_
    simp [E.av, E.cells]
    refine hC.call [] (f15 Gl e e) (by simp [E.av, E.cells]) ?_
    rw [hre]
    refine hC.vc [] 60 ?_
    simp
end Go.Proofs.D
