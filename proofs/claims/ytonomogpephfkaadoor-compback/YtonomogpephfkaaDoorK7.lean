/-
  NODES: how one is written.
-/
import Derived.Test.YtonomogpephfkaaDoorK6
import Derived.Test.YtonomogpephfkaaDoorK1
import Derived.Test.YtonomogpephfkaaDoorDJ
set_option linter.unusedVariables false
set_option linter.unusedSimpArgs false
set_option linter.unusedSimpArgs false
namespace Go.Proofs.D
open Go Go.Abs Go.RowKit
attribute [local simp] VC stepV stepTop stepReg stepOp stMove stPick stBin stUn stConv stBox stAlloc stLoad stStore stFieldAddr stField stExtract stNilCheck stMakeFunc stIndexAddr stIndex stLen
  stBuild placesOf fillA stBuildSlice sliceCells repL chunks allPV toPV drawOk drawOk.go mayMakeO mayMake1 disjoint pairOk Oper.apart Oper.looksAt Op.operands Call.operands Region.binds stAppend appBase appTail unName stSlice bndA
  LS.ev LS.get LS.blk LS.put LS.app LS.upd lkS lkH setS setH Nm.eqb guardOf nexts okPair dstOk AV.cellsOf takeAt putAt lkT sliceE fieldT intK isStrT isBoolT abin newOk LS.freshB LS.freshB.go LS.freshB.goH notIn AV.ments AV.ments.mentsL Blk.ments makes upsMents LS.start startL exitTo T T3 outs callSideO callSideD upsR backO freshAll argB onlyIO List.map List.append List.nil_append List.cons_append Nat.blt
  conv convS convH srcs srcOf blkOk leA leA.leL leB leP laid laidM isArg subH retP resAV resL res1 AV.frz AV.frz.frzL evL AV.ren AV.ren.renL Blk.ren renBs blksOf allSome nodupB onlyArgs blksMents callUps keyed inName inName.go backName callSide
theorem join_sep (s : UInt8) (l : List Bs) : Lib.join l [s] = sepBy s l := by
  cases l with
  | nil => rfl
  | cons x r => rw [Lib.join_cons]; simp [sepBy, sepTail, Lib.joinTail, List.flatMap]
theorem joinB_bs (l : List ByteArray) (s : UInt8) : joinB l ⟨#[s]⟩ = bs (sepBy s (l.map (·.data.toList))) := by
  unfold joinB bs
  rw [← join_sep]
def N.head (n : N) : Bs := if n.kind = textK then headT n.marks else n.kind.data.toList ++ headA n.attrs
theorem N.w_head (n : N) : n.w = if n.kind = textK then quoteB n.text.data.toList ++ n.head else n.head ++ 91 :: (N.w.go n.kids ++ [93]) := by
  rw [N.w_eq, N.head]
  split <;> rfl
theorem head_len (n : N) : n.head.length ≤ 4 * n.wt := by
  rw [N.head, N.wt_eq]
  have h1 := headT_len n.marks
  have h2 := headA_len n.attrs
  split
  · omega
  · simp only [List.length_append, bsz]; omega
theorem wt_names {n : N} (h : n.wt ≤ 100000) : names1 n.marks ≤ 100000 ∧ attrs1 n.attrs ≤ 100000 := by
  rw [N.wt_eq] at h
  exact ⟨by omega, by omega⟩
set_option maxRecDepth 20000 in
set_option maxHeartbeats 2000000 in
theorem f134 (n : N) (hw : n.wt ≤ 100000) : Fun Tryd.prog tabs 134 [n.av] [] (vS (bs n.head)) [] := by
  obtain ⟨z1, z2, z3, z4, z5, z6, z7, z8⟩ := N.lim hw
  obtain ⟨y1, y2⟩ := wt_names hw
  have g0 : (⟨#[60]⟩ : ByteArray).size = 1 := rfl
  have g1 : (⟨#[62]⟩ : ByteArray).size = 1 := rfl
  have g2 : (⟨#[40]⟩ : ByteArray).size = 1 := rfl
  have g3 : (⟨#[41]⟩ : ByteArray).size = 1 := rfl
  have g4 : (⟨#[61]⟩ : ByteArray).size = 1 := rfl
  refine fun_of (T := T3) (n := 49) (rs := [.tmp 2]) Tryd.func134 (by kernel_rfl) rfl rfl rfl tok3 mixed (by simp) fun C hC => ?_
  by_cases hk : n.kind = ⟨#[116, 101, 120, 116]⟩
  · have hh : n.head = headT n.marks := by rw [N.head, if_pos (show n.kind = textK from hk)]
    rw [hh] at hC
    by_cases hm : n.marks = []
    · refine hC.vc [] 60 ?_
      simp [N.av, N.cells, hk, hm, headT, bs]
    · have hml : ¬ (n.marks.length : Int) = 0 := by have := List.length_pos_iff.2 hm; omega
      have hml' : ¬ n.marks.length = 0 := by omega
      have hj := joinB_bs n.marks 44
      have hs := sepBy_len 44 (n.marks.map (·.data.toList))
      have hs2 : ((n.marks.map (·.data.toList)).map fun x => 1 + x.length) = n.marks.map fun s => 1 + s.size := by rw [List.map_map]; rfl
      rw [hs2] at hs
      change _ ≤ names1 n.marks at hs
      refine hC.vc [] 60 ?_
      simp [N.av, N.cells, hk, hm]
      refine hC.call [] (f39 tabs n.marks ⟨#[44]⟩ (by omega) (by rw [hj, bs_size]; omega)) (by simp) ?_
      rw [hj]
      have hfin : (⟨#[60]⟩ : ByteArray) ++ bs (sepBy 44 (n.marks.map (·.data.toList))) ++ ⟨#[62]⟩ = bs (headT n.marks) := bsExt (by simp [headT, hm, bs, ByteArray.data_append])
      refine hC.vc [] 60 ?_
      simp [g0, g1, bs_size, hfin]
      omega
  · have hh : n.head = n.kind.data.toList ++ headA n.attrs := by rw [N.head, if_neg (show ¬ n.kind = textK from hk)]
    rw [hh] at hC
    by_cases ha : n.attrs = []
    · have hfin : bs (n.kind.data.toList ++ headA n.attrs) = n.kind := bsExt (by simp [ha, headA, bs])
      rw [hfin] at hC
      refine hC.vc [] 60 ?_
      simp [N.av, N.cells, hk, ha]
    · have hal : ¬ (n.attrs.length : Int) = 0 := by have := List.length_pos_iff.2 ha; omega
      refine hC.vc [] 60 ?_
      simp [N.av, N.cells, hk, ha]
      refine go_loop (ι := {i : Nat // i ≤ n.attrs.length}) (fun x => ⟨[(1, .ptr (.loc 1) 0), (25, .pv (pairs n.attrs)), (26, vI n.attrs.length), (27, vI x.1), (3, .own (.can 0))],
          [(.loc 1, some (.box 79 n.cells)), (.can 0, some (.row 9 1 ((n.attrs.map fun p => [PV.val (.string (bs (attrB p)))]).take x.1)))]⟩)
        (fun x => n.attrs.length - x.1) ⟨0, by simp⟩ [(.can 0, .nil)] (by simp [N.cells]) fun x ih => ?_
      obtain ⟨i, hi⟩ := x
      simp only at hi ih
      refine hC.vc [] 60 ?_
      by_cases hlt : i < n.attrs.length
      · have hw1 := wr64 ((i : Int) + 1) (by omega)
        obtain ⟨p1, p2⟩ := z4 n.attrs[i] (by simp)
        have q2 := quote_len n.attrs[i].2.data.toList
        rw [bsz] at q2
        simp [hlt, N.cells, g4]
        refine ⟨by omega, ?_⟩
        refine hC.call [] (f65 n.attrs[i].2 (by omega)) (by simp) ?_
        have hat : n.attrs[i].1 ++ ⟨#[61]⟩ ++ bs (quoteB n.attrs[i].2.data.toList) = bs (attrB n.attrs[i]) := bsExt (by simp [attrB, bs, ByteArray.data_append])
        refine hC.vc [] 60 ?_
        simp [bs_size, g4, hat]
        refine ⟨by omega, by omega, ?_⟩
        have htk : (n.attrs.map fun p => [PV.val (.string (bs (attrB p)))]).take (i + 1) = (n.attrs.map fun p => [PV.val (.string (bs (attrB p)))]).take i ++ [[.val (.string (bs (attrB n.attrs[i])))]] := by
          rw [List.take_add_one, List.getElem?_map, List.getElem?_eq_getElem hlt]; rfl
        exact go_to [(.can 0, .nm (.loc 40))] (ih ⟨i + 1, hlt⟩ (by simp; omega)) (by simp [hw1, N.cells, htk])
      · have hnm : (n.attrs.map fun p => [PV.val (.string (bs (attrB p)))]).take i = (n.attrs.map fun p => bs (attrB p)).map fun s => [PV.val (.string s)] := by
          rw [List.take_of_length_le (by simp; omega), List.map_map]; rfl
        have hj := joinB_bs (n.attrs.map fun p => bs (attrB p)) 32
        have hj2 : ((n.attrs.map fun p => bs (attrB p)).map (·.data.toList)) = n.attrs.map attrB := by rw [List.map_map]; exact List.map_congr_left fun p _ => bs_list _
        rw [hj2] at hj
        have hs := sepBy_len 32 (n.attrs.map attrB)
        have hs2 := attrs_sum n.attrs
        rw [hnm]
        simp [hlt, N.cells, g2]
        refine ⟨by omega, ?_⟩
        refine hC.call [.can 0] (fun_ownRow (a := []) (b := [vS ⟨#[32]⟩]) (e := 9) (by simp [AV.ments]) rfl (f39 tabs (n.attrs.map fun p => bs (attrB p)) ⟨#[32]⟩ (by simp; omega) (by rw [hj, bs_size]; omega))) (by simp) ?_
        rw [hj]
        have hfin : n.kind ++ ⟨#[40]⟩ ++ bs (sepBy 32 (n.attrs.map attrB)) ++ ⟨#[41]⟩ = bs (n.kind.data.toList ++ headA n.attrs) := bsExt (by simp [headA, ha, bs, ByteArray.data_append])
        refine hC.vc [] 60 ?_
        simp [bs_size, g2, g3, hfin]
        omega
end Go.Proofs.D
