/-
  NODES: printed; an entry as a text.
-/
import Derived.Test.YtonomogpephfkaaDoorK8
set_option linter.unusedVariables false
set_option linter.unusedSimpArgs false
set_option linter.unusedSimpArgs false
namespace Go.Proofs.D
open Go Go.Abs Go.RowKit
attribute [local simp] VC stepV stepTop stepReg stepOp stMove stPick stBin stUn stConv stBox stAlloc stLoad stStore stFieldAddr stField stExtract stNilCheck stMakeFunc stIndexAddr stIndex stLen
  stBuild placesOf fillA stBuildSlice sliceCells repL chunks allPV toPV drawOk drawOk.go mayMakeO mayMake1 disjoint pairOk Oper.apart Oper.looksAt Op.operands Call.operands Region.binds stAppend appBase appTail unName stSlice bndA
  LS.ev LS.get LS.blk LS.put LS.app LS.upd lkS lkH setS setH Nm.eqb guardOf nexts okPair dstOk AV.cellsOf takeAt putAt lkT sliceE fieldT intK isStrT isBoolT abin newOk LS.freshB LS.freshB.go LS.freshB.goH notIn AV.ments AV.ments.mentsL Blk.ments makes upsMents LS.start startL exitTo T T3 outs callSideO callSideD upsR backO freshAll argB onlyIO List.map List.append List.nil_append List.cons_append Nat.blt
  conv convS convH srcs srcOf blkOk leA leA.leL leB leP laid laidM isArg subH retP resAV resL res1 AV.frz AV.frz.frzL evL AV.ren AV.ren.renL Blk.ren renBs blksOf allSome nodupB onlyArgs blksMents callUps keyed inName inName.go backName callSide
theorem rep_nodes {w : World} {F : Nat → Prop} {hd : Nm → Hd} {a b e : AV} {c : Value} (h : Rep w F hd (.agg [a, b, .pv (.nilS 1), .pv (.nilS 2), e]) c) : Rep w F hd (.agg [a, b, .pv (strs []), .pv (pairs []), e]) c := by
  cases h with
  | agg _ cs hl hh h1 =>
    refine .agg _ cs hl (fun j x v hj hv => ?_) h1
    match j, hj with
    | 0, hj => exact hh 0 x v hj hv
    | 1, hj => exact hh 1 x v hj hv
    | 2, hj => simp at hj; subst hj; exact rep_nil (hh 2 _ v rfl hv)
    | 3, hj => simp at hj; subst hj; exact rep_nil (hh 3 _ v rfl hv)
    | 4, hj => exact hh 4 x v hj hv
/-- A node of nil lists. -/
theorem fun_nils {P : Program} {Gl : Granted} {g : FuncId} {a b e : AV} {rest : List AV} {v : AV} (h : Fun P Gl g (.agg [a, b, .pv (strs []), .pv (pairs []), e] :: rest) [] v []) : Fun P Gl g (.agg [a, b, .pv (.nilS 1), .pv (.nilS 2), e] :: rest) [] v [] :=
  fun_args h (by simp) fun j x y hx hy w F hd c hc => by
    match j, hx, hy with
    | 0, hx, hy => simp at hx hy; subst hx hy; exact rep_nodes hc
    | j + 1, hx, hy => simp at hx hy; rw [hx] at hy; cases hy; exact hc
def N.said (n : N) : ByteArray := if n.check = 0 then bs n.w else ⟨#[]⟩
theorem f89 (n : N) (hw : n.wt ≤ 100000) : Fun Tryd.prog tabs 89 [n.av] [] (.tup [vS n.said, vI n.check]) [] := by
  refine fun_of (T := T3) (n := 14) (rs := [.tmp 2, .tmp 3]) Tryd.func89 (by kernel_rfl) rfl rfl rfl tok3 mixed (by simp) fun C hC => ?_
  refine hC.vc [] 60 ?_
  simp [N.av, N.cells]
  refine hC.call [] (f109 n hw) (by simp [N.av, N.cells]) ?_
  by_cases hc : n.check = 0
  · have hs : n.said = bs n.w := by rw [N.said, if_pos hc]
    rw [hs] at hC
    refine hC.vc [] 60 ?_
    simp [hc, N.cells]
    refine hC.callO [.loc 5] [.can 0] (funO_nil (ty := 83) (e := 5) (c0 := nilPtr) (cs := []) (by simp [N.av, N.cells, AV.ments, AV.ments.mentsL]) (by simp [AV.ments]) (f110 nilPtr [] n (.inl rfl) hw (by simp; omega))) (by simp [N.av, N.cells]) ?_
    refine hC.vc [] 60 ?_
    simp
    refine hC.call [.loc 5, .can 0] (f40 tabs ptr0 n.w (.inr rfl)) (by simp) ?_
    refine hC.vc [] 60 ?_
    simp [bs, hc]
  · have hs : n.said = ⟨#[]⟩ := by rw [N.said, if_neg hc]
    rw [hs] at hC
    refine hC.vc [] 60 ?_
    simp [hc]
def saidAll (l : List N) : ByteArray := if (xOf l).check = 0 then bs (N.w.go l) else ⟨#[]⟩
theorem x_w (l : List N) : (xOf l).w = 120 :: 91 :: (N.w.go l ++ [93]) := by
  have hk : ¬ (xOf l).kind = textK := by
    intro e
    have h1 : (xOf l).kind = ⟨#[120]⟩ := rfl
    rw [h1] at e
    exact absurd (congrArg ByteArray.size e) (by decide)
  rw [N.w_eq, if_neg hk]
  rfl
theorem f66 (l : List N) (hw : (xOf l).wt ≤ 100000) : Fun Tryd.prog tabs 66 [.pv (nodes l)] [] (.tup [vS (saidAll l), vI (xOf l).check]) [] := by
  refine fun_of (T := T3) (n := 20) (rs := [.tmp 2, .tmp 3]) Tryd.func66 (by kernel_rfl) rfl rfl rfl tok3 mixed (by simp) fun C hC => ?_
  refine hC.vc [] 60 ?_
  simp
  refine hC.call [] (fun_nils (f89 (xOf l) hw)) (by simp [N.av, N.cells, xOf, N.kind, N.text, N.marks, N.attrs, N.kids]) ?_
  by_cases hc : (xOf l).check = 0
  · have hs : (xOf l).said = bs (120 :: 91 :: (N.w.go l ++ [93])) := by rw [N.said, if_pos hc, x_w]
    have hs2 : saidAll l = bs (N.w.go l) := by rw [saidAll, if_pos hc]
    have hl := w_len (xOf l)
    rw [x_w] at hl
    simp only [List.length_cons, List.length_append, List.length_nil] at hl
    have hsz : (bs (120 :: 91 :: (N.w.go l ++ [93]))).size = (N.w.go l).length + 3 := by rw [bs_size]; simp
    have hw1 : wr .i64 (((N.w.go l).length : Int) + 3 - 1) = ((N.w.go l).length : Int) + 2 := by rw [wr64 _ (by omega)]; omega
    have hex : (bs (120 :: 91 :: (N.w.go l ++ [93]))).extract 2 ((N.w.go l).length + 2) = bs (N.w.go l) := bsExt (by
      simp [bs, ByteArray.data_extract])
    have e1 : (((N.w.go l).length : Int) + 2).toNat = (N.w.go l).length + 2 := by omega
    rw [hs2] at hC
    rw [hs]
    refine hC.vc [] 60 ?_
    simp [hc, hsz, hw1, e1, hex]
    omega
  · have hs : (xOf l).said = ⟨#[]⟩ := by rw [N.said, if_neg hc]
    have hs2 : saidAll l = ⟨#[]⟩ := by rw [saidAll, if_neg hc]
    rw [hs2] at hC
    refine hC.vc [] 60 ?_
    simp [hc]
end Go.Proofs.D
