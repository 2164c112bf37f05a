/-
  NODES: read from a text.
-/
import Derived.Test.YtonomogpephfkaaDoorK18
import Derived.Test.YtonomogpephfkaaDoorK9
import Derived.Test.YtonomogpephfkaaDoorQ5
set_option linter.unusedVariables false
set_option linter.unusedSimpArgs false
set_option linter.unusedSimpArgs false
namespace Go.Proofs.D
open Go Go.Abs Go.RowKit
attribute [local simp] VC stepV stepTop stepReg stepOp stMove stPick stBin stUn stConv stBox stAlloc stLoad stStore stFieldAddr stField stExtract stNilCheck stMakeFunc stIndexAddr stIndex stLen
  stBuild placesOf fillA stBuildSlice sliceCells repL chunks allPV toPV drawOk drawOk.go mayMakeO mayMake1 disjoint pairOk Oper.apart Oper.looksAt Op.operands Call.operands Region.binds stAppend appBase appTail unName stSlice bndA
  LS.ev LS.get LS.blk LS.put LS.app LS.upd lkS lkH setS setH Nm.eqb guardOf nexts okPair dstOk AV.cellsOf takeAt putAt lkT sliceE fieldT intK isStrT isBoolT abin newOk LS.freshB LS.freshB.go LS.freshB.goH notIn AV.ments AV.ments.mentsL Blk.ments makes upsMents LS.start startL exitTo T T3 outs callSideO callSideD upsR backO freshAll argB onlyIO List.map List.append List.nil_append List.cons_append Nat.blt
  conv convS convH srcs srcOf blkOk leA leA.leL leB leP laid laidM isArg subH retP resAV resL res1 AV.frz AV.frz.frzL evL AV.ren AV.ren.renL Blk.ren renBs blksOf allSome nodupB onlyArgs blksMents callUps keyed inName inName.go backName callSide
theorem n0_cells : n0.cells = [vS ⟨#[]⟩, vS ⟨#[]⟩, .pv (strs []), .pv (pairs []), .pv (nodes [])] := rfl
theorem bytesOf_inj {l m : Bs} : bytesOf l = bytesOf m ↔ l = m := by
  constructor
  · intro h
    have := congrArg (fun s : ByteArray => s.data.toList) h
    simpa [bytesOf] using this
  · intro h; rw [h]
set_option maxRecDepth 20000 in
set_option maxHeartbeats 2000000 in
theorem f98 (s : Bs) (hl : s.length ≤ 15000) : Fun Tryd.prog tabs 98 [vT s] [] (.tup [(parseN s).1.av, vI (parseN s).2]) [] := by
  have hwt := node_wt s
  have hf := f124 tabs (s.length + 1) s (by omega) (by omega)
  have hr : readN s = nodeF (s.length + 1) (s, false) := rfl
  have hb : badN s = ((readN s).2.2 || !decide ((readN s).2.1 = []) || !decide ((readN s).1.w = s) || decide ((readN s).1.check = 2)) := rfl
  have hp : parseN s = if badN s = true then (n0, 2) else if (readN s).1.check = 0 then ((readN s).1, 0) else (n0, (readN s).1.check) := rfl
  rw [hr] at hb hp
  generalize nodeF (s.length + 1) (s, false) = rd at hwt hf hb hp
  obtain ⟨n, l, b⟩ := rd
  simp only at hwt hf hb hp
  have hbad : badN s = true → parseN s = (n0, 2) := fun h => by rw [hp, if_pos h]
  refine fun_of (T := T3) (n := 43) (rs := [.cell 2 79, .tmp 3]) Tryd.func98 (by kernel_rfl) rfl rfl rfl tok3 mixed (by simp) fun C hC => ?_
  refine hC.vc [] 60 ?_
  simp
  refine hC.call [.loc 10] hf (by simp [N.av, N.cells]) ?_
  refine hC.vc [] 60 ?_
  simp [N.av, N.cells]
  refine hC.callO [.loc 6] [.can 0] (funO_nil (ty := 83) (e := 5) (c0 := nilPtr) (cs := []) (by simp [N.av, N.cells, AV.ments, AV.ments.mentsL]) (by simp [AV.ments]) (f110 nilPtr [] n (.inl rfl) (by omega) (by simp; omega))) (by simp [N.av, N.cells]) ?_
  refine hC.vc [] 60 ?_
  simp
  refine hC.call [] (f109 n (by omega)) (by simp [N.av, N.cells]) ?_
  have fin : badN s = true → ∀ k, Go C (.top (Item.code .ret :: k) ⟨[(2, .ptr (.loc 2) 0), (3, vI 2)], [(.loc 2, some (.box 79 n0.cells))]⟩) := fun h k => by
    rw [hbad h] at hC
    exact hC.vc [] 5 (by simp [N.av, n0_cells])
  cases b with
  | true =>
    have hB : badN s = true := by rw [hb]; simp
    refine hC.vc [] 33 ?_
    simp
    exact go_to [] (fin hB _) (by simp [n0_cells])
  | false =>
    by_cases h1 : l = []
    · subst h1
      have hb0 : bytesOf [] = ⟨#[]⟩ := rfl
      refine hC.vc [] 60 ?_
      simp [hb0]
      refine hC.call [.loc 6, .can 0] (f40 tabs ptr0 n.w (.inr rfl)) (by simp) ?_
      have hwb : (⟨n.w.toArray⟩ : ByteArray) = bytesOf n.w := rfl
      rw [hwb]
      by_cases h2 : n.w = s
      · have h2' : bytesOf n.w = bytesOf s := bytesOf_inj.2 h2
        by_cases h3 : n.check = 2
        · have hB : badN s = true := by rw [hb]; simp [h3]
          refine hC.vc [] 15 ?_
          simp [h2', h3]
          exact go_to [] (fin hB _) (by simp [n0_cells])
        · have hB : badN s = false := by rw [hb]; simp [h2, h3]
          rw [hB, if_neg (by simp)] at hp
          by_cases h4 : n.check = 0
          · rw [if_pos h4] at hp
            rw [hp] at hC
            refine hC.vc [] 60 ?_
            simp [h2', h4, N.av, N.cells]
          · rw [if_neg h4] at hp
            rw [hp] at hC
            refine hC.vc [] 24 ?_
            simp [h2', h3, h4]
            exact go_to (M := ⟨[(2, .ptr (.loc 2) 0), (3, vI n.check)], [(.loc 2, some (.box 79 n0.cells))]⟩) [] (hC.vc [] 5 (by simp [N.av, n0_cells])) (by simp [n0_cells])
      · have h2' : ¬ bytesOf n.w = bytesOf s := fun e => h2 (bytesOf_inj.1 e)
        have hB : badN s = true := by rw [hb]; simp [h2]
        refine hC.vc [] 15 ?_
        simp [h2']
        exact go_to [] (fin hB _) (by simp [n0_cells])
    · have h1' : ¬ bytesOf l = ⟨#[]⟩ := fun e => h1 (bytesOf_nil.1 e)
      have hB : badN s = true := by rw [hb]; simp [h1]
      refine hC.vc [] 33 ?_
      simp [h1']
      exact go_to [] (fin hB _) (by simp [n0_cells])
end Go.Proofs.D
