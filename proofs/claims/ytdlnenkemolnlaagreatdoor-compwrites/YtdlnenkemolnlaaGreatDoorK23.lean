/-
  COMPLEMENTS, read.
-/
import Derived.Test.YtdlnenkemolnlaaGreatDoorK22
set_option linter.unusedVariables false
set_option linter.unusedSimpArgs false
namespace Go.Proofs.D
open Go Go.Abs Go.RowKit
attribute [local simp] VC VCS stepVS stepTopS firstId memN bigB unmark markT mkOff calmP keepT boundB stepV stepTop stepReg stepOp stMove stPick stBin stUn stConv stBox stAlloc stLoad stStore stFieldAddr stField stExtract stNilCheck stMakeFunc stIndexAddr stIndex stLen
  stBuild placesOf fillA stBuildSlice sliceCells repL chunks allPV toPV drawOk drawOk.go mayMakeO mayMake1 disjoint pairOk Oper.apart Oper.looksAt Op.operands Call.operands Region.binds stAppend appBase appTail unName stSlice bndA
  LS.ev LS.get LS.blk LS.put LS.app LS.upd lkS lkH setS setH Nm.eqb guardOf nexts okPair dstOk AV.cellsOf takeAt putAt lkT sliceE fieldT intK isStrT isBoolT abin newOk LS.freshB LS.freshB.go LS.freshB.goH notIn AV.ments AV.ments.mentsL Blk.ments makes upsMents LS.start startL exitTo T T3 outs callSideO callSideD upsR backO freshAll argB onlyIO List.map List.append List.nil_append List.cons_append Nat.blt
  conv convS convH srcs srcOf blkOk leA leA.leL Go.Abs.leB leP laid laidM isArg subH retP resAV resL res1 AV.frz AV.frz.frzL evL AV.ren AV.ren.renL Blk.ren renBs blksOf allSome nodupB onlyArgs blksMents callUps keyed inName inName.go backName callSide
theorem pLoop_nil (j : Nat) (c : Cm) (s : List Ent) : pLoop j c s [] = some c := by cases j <;> simp [pLoop]
set_option maxRecDepth 20000 in
set_option maxHeartbeats 4000000 in
theorem f27 (t : Bs) (hl : t.length ≤ 10000) : Fun Tryz.prog tabs 12 [vT t] [] (.tup [.pv (comp (parseC t).1), vI (parseC t).2]) [] := by
  have hP : parseC t = match pLoop t.length [] [] t with
    | none => ([], 2)
    | some c => if okC c = true ∧ compB c = t then (c, 0) else ([], 2) := rfl
  refine fun_of (T := T3) (n := 55) (rs := [.tmp 2, .tmp 3]) Tryz.func12 (by kernel_rfl) rfl rfl rfl tok3 mixed (by simp) fun C hC => ?_
  refine hC.vc [] 60 ?_
  simp
  refine go_loop (ι := {x : Nat × Cm × List Ent × Bs // x.2.2.2.length ≤ x.1 ∧ x.2.1.length + x.2.2.2.length ≤ t.length ∧ x.2.2.1.length + x.2.2.2.length ≤ t.length ∧ pLoop t.length [] [] t = pLoop x.1 x.2.1 x.2.2.1 x.2.2.2}) (fun x => ⟨[(0, vT t), (4, .own (.can 0)), (5, .own (.can 1)), (6, vT x.1.2.2.2)], [(.can 0, some (.row 80 1 (x.1.2.1.map fun l => [slot l]))), (.can 1, some (.row 78 3 (x.1.2.2.1.map Ent.pv)))]⟩)
    (fun x => x.1.2.2.2.length) ⟨(t.length, [], [], t), by simp⟩ [(.can 0, .nil), (.can 1, .nil)] (by simp) fun x ih => ?_
  obtain ⟨⟨j, c, s, r⟩, hj, hcl, hsl, hn⟩ := x
  simp only at hj hcl hsl hn ih
  by_cases hr : r = []
  · subst hr
    have hb0 : bytesOf [] = ⟨#[]⟩ := rfl
    rw [pLoop_nil] at hn
    have hwt := pLoop_wt _ _ _ _ _ hn
    simp only [compWt, List.map_nil, List.sum_nil, Nat.zero_add] at hwt
    change compWt c ≤ 7 * t.length at hwt
    rw [hn] at hP
    simp only at hP
    refine hC.vc [] 8 ?_
    simp [hb0]
    refine go_to (M := ⟨[(0, vT t), (4, .pv (comp c))], []⟩) [] ?_ (by simp)
    refine hC.vc [] 60 ?_
    simp
    refine hC.call [] (f23 c (by omega)) (by simp) ?_
    cases hk : okC c with
    | false =>
      have e2 : printE c = 2 := by rw [printE, hk]; rfl
      rw [if_neg (fun h => by rw [hk] at h; cases h.1)] at hP
      rw [hP] at hC
      rw [e2]
      refine hC.vc [] 22 ?_
      simp
      exact go_to (M := ⟨[(2, .pv (comp [])), (3, vI 2)], []⟩) [] (hC.vc [] 5 (by simp)) (by simp)
    | true =>
      have e1 : printC c = bytesOf (compB c) := by rw [printC, hk]; rfl
      have e2 : printE c = 0 := by rw [printE, hk]; rfl
      rw [e1, e2]
      by_cases hq : compB c = t
      · rw [if_pos ⟨hk, hq⟩] at hP
        rw [hP] at hC
        refine hC.vc [] 60 ?_
        simp [hq]
      · have hq' : ¬ bytesOf (compB c) = bytesOf t := fun e => hq (bytesOf_inj.1 e)
        rw [if_neg (fun h => hq h.2)] at hP
        rw [hP] at hC
        refine hC.vc [] 22 ?_
        simp [hq']
        exact go_to (M := ⟨[(2, .pv (comp [])), (3, vI 2)], []⟩) [] (hC.vc [] 5 (by simp)) (by simp)
  · have hrl : 0 < r.length := List.length_pos_iff.2 hr
    have hrb : ¬ bytesOf r = ⟨#[]⟩ := fun e => hr (bytesOf_nil.1 e)
    obtain ⟨j, rfl⟩ : ∃ k, j = k + 1 := ⟨j - 1, by omega⟩
    rw [pLoop, if_neg hr] at hn
    refine hC.vc [] 60 ?_
    simp [hrb]
    refine hC.call [] (f50b tabs 10 r) (by simp) ?_
    cases h10 : headIs 10 r with
    | true =>
      rw [h10, if_pos rfl] at hn
      have htr : trimB 10 r = r.drop 1 := by rw [trimB, h10, if_pos rfl]
      have hdl : (r.drop 1).length + 1 = r.length := by rw [List.length_drop]; omega
      rw [htr]
      generalize r.drop 1 = u at hn hdl ⊢
      refine hC.vc [] 11 ?_
      simp
      refine go_to (M := ⟨[(0, vT t), (4, .own (.can 0)), (5, .pv (slot s)), (7, vT u)], [(.can 0, some (.row 80 1 (c.map fun l => [slot l])))]⟩) [] ?_ (by simp)
      refine hC.vc [] 60 ?_
      simp
      refine ⟨by omega, ?_⟩
      exact go_to [(.can 0, .nm (.loc 26)), (.can 1, .nil)] (ih ⟨(j, c ++ [s], [], u), by dsimp only; omega, by simp; omega, by simp; omega, hn⟩ (by simp; omega)) (by simp)
    | false =>
      rw [h10, if_neg (by simp)] at hn
      have htl := trim_le 32 r
      refine hC.vc [] 60 ?_
      simp
      refine hC.call [] (f52 tabs 32 r) (by simp) ?_
      have hew := entry_wt (trimB 32 r)
      generalize trimB 32 r = u at hn htl hew ⊢
      refine hC.vc [] 60 ?_
      simp
      refine hC.call [] (f51 u (by omega)) (by simp [Ent.av, Ent.cells]) ?_
      generalize entryB u = eb at hn hew ⊢
      obtain ⟨e, b, ok⟩ := eb
      simp only at hn hew ⊢
      cases ok with
      | false =>
        rw [if_neg (by simp)] at hn
        rw [hn] at hP
        simp only at hP
        rw [hP] at hC
        refine hC.vc [] 21 ?_
        simp [Ent.av, Ent.cells]
        exact go_to (M := ⟨[(2, .pv (comp [])), (3, vI 2)], []⟩) [] (hC.vc [] 5 (by simp)) (by simp)
      | true =>
        rw [if_pos rfl] at hn
        obtain ⟨_, hbl⟩ := hew rfl
        refine hC.vc [] 60 ?_
        simp [Ent.av, Ent.cells]
        refine ⟨by omega, ?_⟩
        exact go_to [(.can 0, .nm (.can 0)), (.can 1, .nm (.loc 40))] (ih ⟨(j, c, s ++ [e], b), by dsimp only; omega, by dsimp only; omega, by simp; omega, hn⟩ (by simp; omega)) (by simp [Ent.pv])
end Go.Proofs.D
