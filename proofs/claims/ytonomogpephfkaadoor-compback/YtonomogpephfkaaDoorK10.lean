/-
  COMPLEMENTS: an entry as a text; all of one.
-/
import Derived.Test.YtonomogpephfkaaDoorK9
set_option linter.unusedVariables false
set_option linter.unusedSimpArgs false
set_option linter.unusedSimpArgs false
namespace Go.Proofs.D
open Go Go.Abs Go.RowKit
attribute [local simp] VC stepV stepTop stepReg stepOp stMove stPick stBin stUn stConv stBox stAlloc stLoad stStore stFieldAddr stField stExtract stNilCheck stMakeFunc stIndexAddr stIndex stLen
  stBuild placesOf fillA stBuildSlice sliceCells repL chunks allPV toPV drawOk drawOk.go mayMakeO mayMake1 disjoint pairOk Oper.apart Oper.looksAt Op.operands Call.operands Region.binds stAppend appBase appTail unName stSlice bndA
  LS.ev LS.get LS.blk LS.put LS.app LS.upd lkS lkH setS setH Nm.eqb guardOf nexts okPair dstOk AV.cellsOf takeAt putAt lkT sliceE fieldT intK isStrT isBoolT abin newOk LS.freshB LS.freshB.go LS.freshB.goH notIn AV.ments AV.ments.mentsL Blk.ments makes upsMents LS.start startL exitTo T T3 outs callSideO callSideD upsR backO freshAll argB onlyIO List.map List.append List.nil_append List.cons_append Nat.blt
  conv convS convH srcs srcOf blkOk leA leA.leL leB leP laid laidM isArg subH retP resAV resL res1 AV.frz AV.frz.frzL evL AV.ren AV.ren.renL Blk.ren renBs blksOf allSome nodupB onlyArgs blksMents callUps keyed inName inName.go backName callSide
def Ent.txt (e : Ent) : ByteArray := if e.has = true then (if saidAll e.rest = ⟨#[]⟩ then bs (61 :: quoteB e.value.data.toList) else bs (61 :: (quoteB e.value.data.toList ++ 91 :: ((saidAll e.rest).data.toList ++ [93])))) else ⟨#[45]⟩
theorem x_wt (l : List N) : (xOf l).wt = 2 + N.wt.go l := by
  rw [N.wt_eq]
  simp only [xOf, N.kind, N.text, N.marks, N.attrs, N.kids, names1, attrs1, List.map_nil, List.sum_nil]
  have h1 : (⟨#[120]⟩ : ByteArray).size = 1 := rfl
  have h0 : (⟨#[]⟩ : ByteArray).size = 0 := rfl
  omega
theorem txt_ok {e : Ent} (h : e.ok = true) : e.txt = bs e.w := by
  unfold Ent.ok at h
  unfold Ent.txt Ent.w
  cases hh : e.has with
  | false => simp; rfl
  | true =>
    rw [hh] at h
    simp only [if_true, Bool.and_eq_true, decide_eq_true_eq] at h ⊢
    have hs : saidAll e.rest = bs (N.w.go e.rest) := by rw [saidAll, if_pos h.2]
    rw [hs, bs_list]
    by_cases h0 : N.w.go e.rest = []
    · rw [if_pos h0, h0, if_pos (by rfl)]; simp
    · rw [if_neg h0, if_neg (fun e => h0 (by have := congrArg (fun s : ByteArray => s.data.toList) e; simpa [bs] using this))]
set_option maxRecDepth 20000 in
set_option maxHeartbeats 2000000 in
theorem f37 (e : Ent) (hw : e.wt ≤ 90000) : Fun Tryd.prog tabs 37 [e.av] [] (.tup [vS e.txt, vB e.ok]) [] := by
  have hv : e.value.size ≤ 90000 := by unfold Ent.wt at hw; omega
  have hg : N.wt.go e.rest ≤ 90000 := by unfold Ent.wt at hw; omega
  have hx : (xOf e.rest).wt ≤ 100000 := by rw [x_wt]; omega
  have hsl : (saidAll e.rest).size ≤ 400000 := by
    unfold saidAll
    split
    · rw [bs_size]; have := go_len4 e.rest; omega
    · exact Nat.zero_le _
  have hql := quote_len e.value.data.toList
  rw [bsz] at hql
  have g0 : (⟨#[61]⟩ : ByteArray).size = 1 := rfl
  have g1 : (⟨#[91]⟩ : ByteArray).size = 1 := rfl
  have g2 : (⟨#[93]⟩ : ByteArray).size = 1 := rfl
  refine fun_of (T := T3) (n := 37) (rs := [.tmp 2, .tmp 3]) Tryd.func37 (by kernel_rfl) rfl rfl rfl tok3 mixed (by simp) fun C hC => ?_
  cases hh : e.has with
  | false =>
    have h1 : e.txt = ⟨#[45]⟩ := by simp [Ent.txt, hh]
    have h2 : e.ok = e.none := by simp [Ent.ok, hh]
    rw [h1, h2] at hC
    refine hC.vc [] 60 ?_
    simp [Ent.av, Ent.cells, hh]
    refine hC.call [] (f64 tabs e) (by simp [Ent.av, Ent.cells, hh]) ?_
    refine hC.vc [] 60 ?_
    simp
  | true =>
    have h2 : e.ok = (value e.value && decide ((xOf e.rest).check = 0)) := by simp [Ent.ok, hh]
    rw [h2] at hC
    refine hC.vc [] 60 ?_
    simp [Ent.av, Ent.cells, hh]
    refine hC.call [] (f65 e.value (by omega)) (by simp) ?_
    have hq : (⟨#[61]⟩ : ByteArray) ++ bs (quoteB e.value.data.toList) = bs (61 :: quoteB e.value.data.toList) := bsExt (by simp [bs, ByteArray.data_append])
    refine hC.vc [] 60 ?_
    simp [Ent.cells, g0, bs_size, hq]
    refine ⟨by omega, ?_⟩
    refine hC.call [] (f66 e.rest hx) (by simp) ?_
    by_cases h0 : saidAll e.rest = ⟨#[]⟩
    · have h1 : e.txt = bs (61 :: quoteB e.value.data.toList) := by simp [Ent.txt, hh, h0]
      rw [h1] at hC
      refine hC.vc [] 60 ?_
      simp [Ent.cells, h0]
      refine hC.call [] (f67 e.value (by omega)) (by simp) ?_
      refine hC.vc [] 60 ?_
      cases hvv : value e.value <;> simp
    · have h1 : e.txt = bs (61 :: (quoteB e.value.data.toList ++ 91 :: ((saidAll e.rest).data.toList ++ [93]))) := by simp [Ent.txt, hh, h0]
      have hfin : bs (61 :: quoteB e.value.data.toList) ++ (⟨#[91]⟩ ++ saidAll e.rest ++ ⟨#[93]⟩) = e.txt := by rw [h1]; exact bsExt (by simp [bs, ByteArray.data_append])
      refine hC.vc [] 60 ?_
      simp [Ent.cells, h0, g1, g2, bs_size, hfin]
      refine ⟨by omega, by omega, by omega, ?_⟩
      refine hC.call [] (f67 e.value (by omega)) (by simp) ?_
      refine hC.vc [] 60 ?_
      cases hvv : value e.value <;> simp
end Go.Proofs.D
