/-
  THE READER OF NODES: texts with marks.
-/
import Derived.Test.YtonomogpephfkaaDoorK16
import Derived.Test.YtonomogpephfkaaDoorQ3
set_option linter.unusedVariables false
set_option linter.unusedSimpArgs false
set_option linter.unusedSimpArgs false
namespace Go.Proofs.D
open Go Go.Abs Go.RowKit
attribute [local simp] VC stepV stepTop stepReg stepOp stMove stPick stBin stUn stConv stBox stAlloc stLoad stStore stFieldAddr stField stExtract stNilCheck stMakeFunc stIndexAddr stIndex stLen
  stBuild placesOf fillA stBuildSlice sliceCells repL chunks allPV toPV drawOk drawOk.go mayMakeO mayMake1 disjoint pairOk Oper.apart Oper.looksAt Op.operands Call.operands Region.binds stAppend appBase appTail unName stSlice bndA
  LS.ev LS.get LS.blk LS.put LS.app LS.upd lkS lkH setS setH Nm.eqb guardOf nexts okPair dstOk AV.cellsOf takeAt putAt lkT sliceE fieldT intK isStrT isBoolT abin newOk LS.freshB LS.freshB.go LS.freshB.goH notIn AV.ments AV.ments.mentsL Blk.ments makes upsMents LS.start startL exitTo T T3 outs callSideO callSideD upsR backO freshAll argB onlyIO List.map List.append List.nil_append List.cons_append Nat.blt
  conv convS convH srcs srcOf blkOk leA leA.leL leB leP laid laidM isArg subH retP resAV resL res1 AV.frz AV.frz.frzL evL AV.ren AV.ren.renL Blk.ren renBs blksOf allSome nodupB onlyArgs blksMents callUps keyed inName inName.go backName callSide
theorem f78 (Gl : Granted) (s p : ByteArray) : Fun Tryd.prog Gl 78 [vS s, vS p] [] (vB (hasPre s p)) [] := by
  refine fun_of (T := T3) (n := 8) (rs := [.tmp 4]) Tryd.func78 (by kernel_rfl) rfl rfl rfl tok3 mixed (by simp) fun C hC => ?_
  refine hC.vc [] 60 ?_
  simp
  refine hC.call [] (f96 Gl s p) (by simp) ?_
  refine hC.vc [] 60 ?_
  simp
theorem takes_false (c : UInt8) (l : Bs) : (takesB c l).1 = false → (takesB c l).2 = l := by
  cases l with
  | nil => intro _; rfl
  | cons x l =>
    simp only [takesB]
    split <;> simp
abbrev nmRow (ms : List Bs) : List (List PV) := ms.map fun s => [PV.val (.string (bytesOf s))]
set_option maxRecDepth 20000 in
set_option maxHeartbeats 2000000 in
theorem f141 (Gl : Granted) (l : Bs) (b : Bool) (hl : l.length ≤ 9000000) : Fun Tryd.prog Gl 141 [.ptr (.arg 0) 0] [some (rdN l b)] (textB (l, b)).1.av [some (rdN (textB (l, b)).2.1 (textB (l, b)).2.2)] := by
  have hql := (quoted_le (l, b)).1
  have htb : textB (l, b) = if (takesB 60 (quotedB (l, b)).2.1).1 = true then
    (.mk textK (bytesOf (quotedB (l, b)).1) ((marksGo (takesB 60 (quotedB (l, b)).2.1).2).1.map bytesOf) [] [], wantB 62 ((marksGo (takesB 60 (quotedB (l, b)).2.1).2).2, (quotedB (l, b)).2.2))
  else (.mk textK (bytesOf (quotedB (l, b)).1) [] [] [], (quotedB (l, b)).2) := rfl
  refine fun_of (T := T3) (n := 25) (rs := [.cell 2 79]) Tryd.func141 (by kernel_rfl) rfl rfl rfl tok3 mixed (by simp) fun C hC => ?_
  refine hC.vc [] 60 ?_
  simp
  refine hC.call [.arg 0] (f145 Gl l b hl) (by simp) ?_
  generalize quotedB (l, b) = qq at hql htb ⊢
  obtain ⟨q, l1, b1⟩ := qq
  simp only at hql htb ⊢
  refine hC.vc [] 60 ?_
  simp
  refine hC.call [.arg 0] (f143 Gl 60 l1 b1) (by simp) ?_
  have ht2 := (takes_le 60 l1).1
  have ht3 := takes_false 60 l1
  generalize takesB 60 l1 = tk at htb ht2 ht3 ⊢
  obtain ⟨ok, l2⟩ := tk
  simp only at htb ht2 ht3 ⊢
  cases ok with
  | false =>
    simp only [Bool.false_eq_true, if_false] at htb
    rw [htb] at hC
    obtain rfl := ht3 rfl
    refine hC.vc [] 8 ?_
    simp
    exact go_to (M := ⟨[(2, .ptr (.loc 2) 0)], [(.arg 0, some (rdN l2 b1)), (.loc 2, some (.box 79 (N.mk textK (bytesOf q) [] [] []).cells))]⟩) [] (hC.vc [] 5 (by simp [N.av, N.cells, N.kind, N.text, N.marks, N.attrs, N.kids])) (by simp [N.cells, N.kind, N.text, N.marks, N.attrs, N.kids, textK])
  | true =>
    simp only [if_true] at htb
    rw [htb] at hC
    refine hC.vc [] 60 ?_
    simp
    refine go_loop (ι := {x : Bool × List Bs × Bs // x.2.1.length + x.2.2.length ≤ l2.length + (if x.1 = true then 0 else 1) ∧ marksGo l2 = if x.1 = true then (x.2.1 ++ (marksGo x.2.2).1, (marksGo x.2.2).2) else x.2}) (fun x => ⟨[(0, .ptr (.arg 0) 0), (2, .ptr (.loc 2) 0), (3, .ptr (.loc 3) 0), (4, vB x.1.1)], [(.arg 0, some (rdN x.1.2.2 b1)), (.loc 2, some (.box 79 [vS ⟨#[]⟩, vS ⟨#[]⟩, .pv (.nilS 1), .pv (.nilS 2), .pv (.nilS 5)])), (.loc 3, some (.box 79 [vS textK, vT q, .own (.can 0), .pv (.nilS 2), .pv (.nilS 5)])), (.can 0, some (.row 9 1 (nmRow x.1.2.1)))]⟩)
      (fun x => if x.1.1 = true then x.1.2.2.length + 1 else 0) ⟨(true, [], l2), by simp⟩ [(.can 0, .nil)] (by simp [textK]) fun x ih => ?_
    obtain ⟨⟨sg, ms, m⟩, hm, hn⟩ := x
    simp only at hm hn ih
    cases sg with
    | false =>
      simp only [Bool.false_eq_true, if_false] at hn
      rw [hn] at hC
      refine hC.vc [] 60 ?_
      simp
      refine hC.call [.arg 0] (f144 Gl 62 m b1) (by simp) ?_
      refine hC.vc [] 6 ?_
      simp
      exact go_to (M := ⟨[(2, .ptr (.loc 2) 0)], [(.arg 0, some (rdN (wantB 62 (m, b1)).1 (wantB 62 (m, b1)).2)), (.loc 2, some (.box 79 (N.mk textK (bytesOf q) (ms.map bytesOf) [] []).cells))]⟩) [] (hC.vc [] 5 (by simp [N.av, N.cells, N.kind, N.text, N.marks, N.attrs, N.kids])) (by simp [N.cells, N.kind, N.text, N.marks, N.attrs, N.kids, textK])
    | true =>
      simp only [if_true, Nat.add_zero] at hn hm
      have h1 := name_le m
      obtain ⟨h2, h3⟩ := takes_le 44 (nameB m).2
      rw [marksGo.eq_def m] at hn
      refine hC.vc [] 60 ?_
      simp
      refine hC.call [.arg 0] (f142 Gl m b1 (by omega)) (by simp) ?_
      refine hC.vc [] 60 ?_
      simp
      refine ⟨⟨by omega, by omega⟩, ?_⟩
      refine hC.call [.arg 0] (f143 Gl 44 (nameB m).2 b1) (by simp) ?_
      generalize takesB 44 (nameB m).2 = tk at hn h2 h3 ⊢
      obtain ⟨ok, m2⟩ := tk
      simp only at hn h2 h3 ⊢
      cases ok with
      | true =>
        have h4 := h3 rfl
        rw [dif_pos rfl] at hn
        refine hC.vc [] 60 ?_
        simp
        exact go_to [(.can 0, .nm (.loc 20))] (ih ⟨(true, ms ++ [(nameB m).1], m2), by simp; omega, by rw [hn]; simp⟩ (by simp; omega)) (by simp)
      | false =>
        rw [dif_neg (by simp)] at hn
        refine hC.vc [] 60 ?_
        simp
        exact go_to [(.can 0, .nm (.loc 20))] (ih ⟨(false, ms ++ [(nameB m).1], m2), by simp; omega, by rw [hn]; simp⟩ (by simp)) (by simp)
end Go.Proofs.D
