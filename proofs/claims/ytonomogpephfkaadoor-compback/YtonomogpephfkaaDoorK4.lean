/-
  NODES: is one a text, do names rise, are two alike; what an entry says.
-/
import Derived.Test.YtonomogpephfkaaDoorK3
import Derived.Test.YtonomogpephfkaaDoorDN
import Derived.Test.YtonomogpephfkaaDoorAbsP
set_option linter.unusedVariables false
set_option linter.unusedSimpArgs false
set_option linter.unusedSimpArgs false
namespace Go.Proofs.D
open Go Go.Abs Go.RowKit
attribute [local simp] VC stepV stepTop stepReg stepOp stMove stPick stBin stUn stConv stBox stAlloc stLoad stStore stFieldAddr stField stExtract stNilCheck stMakeFunc stIndexAddr stIndex stLen
  stBuild placesOf fillA stBuildSlice sliceCells repL chunks allPV toPV drawOk drawOk.go mayMakeO mayMake1 disjoint pairOk Oper.apart Oper.looksAt Op.operands Call.operands Region.binds stAppend appBase appTail unName stSlice bndA
  LS.ev LS.get LS.blk LS.put LS.app LS.upd lkS lkH setS setH Nm.eqb guardOf nexts okPair dstOk AV.cellsOf takeAt putAt lkT sliceE fieldT intK isStrT isBoolT abin newOk LS.freshB LS.freshB.go LS.freshB.goH notIn AV.ments AV.ments.mentsL Blk.ments makes upsMents LS.start startL exitTo T T3 outs callSideO callSideD upsR backO freshAll argB onlyIO List.map List.append List.nil_append List.cons_append Nat.blt
  conv convS convH srcs srcOf blkOk leA leA.leL leB leP laid laidM isArg subH retP resAV resL res1 AV.frz AV.frz.frzL evL AV.ren AV.ren.renL Blk.ren renBs blksOf allSome nodupB onlyArgs blksMents callUps keyed inName inName.go backName callSide
theorem f152 (Gl : Granted) (n : N) : Fun Tryd.prog Gl 152 [n.av] [] (vB n.isText) [] := by
  refine fun_of (T := T3) (n := 6) (rs := [.tmp 2]) Tryd.func152 (by kernel_rfl) rfl rfl rfl tok3 mixed (by simp) fun C hC => ?_
  refine hC.vc [] 60 ?_
  by_cases h : n.kind = ⟨#[116, 101, 120, 116]⟩ <;> simp [N.av, N.cells, N.isText, textK, h]
theorem f64 (Gl : Granted) (e : Ent) : Fun Tryd.prog Gl 64 [e.av] [] (vB e.none) [] := by
  refine fun_of (T := T3) (n := 12) (rs := [.tmp 2]) Tryd.func64 (by kernel_rfl) rfl rfl rfl tok3 mixed (by simp) fun C hC => ?_
  by_cases h : e.value = ⟨#[]⟩
  · by_cases h2 : (e.rest.length : Int) = 0
    · have h2' : e.rest.length = 0 := by omega
      refine hC.vc [] 60 ?_
      simp [Ent.av, Ent.cells, Ent.none, h, h2, h2']
    · have h2' : ¬ e.rest.length = 0 := by omega
      refine hC.vc [] 60 ?_
      simp [Ent.av, Ent.cells, Ent.none, h, h2, h2']
  · refine hC.vc [] 60 ?_
    simp [Ent.av, Ent.cells, Ent.none, h]
theorem f35 (Gl : Granted) (op : Int) (a b c : ByteArray) (v w : PV) (h : op = 97) : Fun Tryd.prog Gl 35 [.agg [.pv (.val (.int .u8 op)), vS a, vS b, vS c, .pv v, .pv w]] [] (vB true) [] := by
  refine fun_of (T := T3) (n := 21) (rs := [.tmp 2]) Tryd.func35 (by kernel_rfl) rfl rfl rfl tok3 mixed (by simp) fun C hC => ?_
  refine hC.vc [] 60 ?_
  simp [h]
theorem f154 (Gl : Granted) (a b : N) : Fun Tryd.prog Gl 154 [a.av, b.av] [] (vB (alike a b)) [] := by
  refine fun_of (T := T3) (n := 18) (rs := [.tmp 4]) Tryd.func154 (by kernel_rfl) rfl rfl rfl tok3 mixed (by simp) fun C hC => ?_
  refine hC.vc [] 60 ?_
  simp [N.av, N.cells]
  refine hC.call [] (f152 Gl a) (by simp [N.av, N.cells]) ?_
  refine hC.vc [] 60 ?_
  cases h1 : a.isText with
  | false => simp [alike, h1]
  | true =>
    simp
    refine hC.call [] (f152 Gl b) (by simp [N.av, N.cells]) ?_
    refine hC.vc [] 60 ?_
    cases h2 : b.isText with
    | false => simp [alike, h1, h2]
    | true =>
      simp
      refine hC.call [] (f70 Gl a.marks b.marks) (by simp) ?_
      refine hC.vc [] 60 ?_
      simp [alike, h1, h2]
def prevAt {α : Type} (l : List α) (i : Nat) : Option α := if i = 0 then none else l[i - 1]?
theorem prevAt_succ {α : Type} {l : List α} {i : Nat} (h : i < l.length) : prevAt l (i + 1) = some l[i] := by
  simp [prevAt, h]
set_option maxRecDepth 20000 in
theorem f153 (Gl : Granted) (l : List ByteArray) (hs : ∀ s ∈ l, s.size ≤ M47) : Fun Tryd.prog Gl 153 [.pv (strs l)] [] (vB (rise l)) [] := by
  refine fun_of (T := T3) (n := 29) (rs := [.tmp 2]) Tryd.func153 (by kernel_rfl) rfl rfl rfl tok3 mixed (by simp) fun C hC => ?_
  refine hC.vc [] 60 ?_
  simp
  refine go_len 0 1 (l.map fun s => [.val (.string s)]) (by simp) fun hk => ?_
  rw [List.length_map] at hk
  refine go_loop (ι := {i : Nat // i ≤ l.length ∧ rise l = riseFrom (prevAt l i) (l.drop i)}) (fun x => ⟨[(0, .pv (strs l)), (5, .pv (strs l)), (6, vI l.length), (7, vI x.1)], []⟩)
    (fun x => l.length - x.1) ⟨0, by simp [rise, prevAt]⟩ [] (by simp) fun x ih => ?_
  obtain ⟨i, hi, hn⟩ := x
  simp only at hi hn ih
  refine hC.vc [] 60 ?_
  by_cases hlt : i < l.length
  · rw [List.drop_eq_getElem_cons hlt] at hn
    simp only [riseFrom] at hn
    have hw := wr64 ((i : Int) + 1) (by omega)
    simp [hlt]
    refine hC.call [] (f58 Gl l[i] (by have := hs l[i] (by simp); simp only [M47] at this; omega)) (by simp) ?_
    refine hC.vc [] 60 ?_
    cases hnm : isName l[i] with
    | false =>
      simp [hn, hnm]
    | true =>
      rw [hnm, Bool.true_and] at hn
      by_cases h0 : 0 < (i : Int)
      · have hw2 := wr64 ((i : Int) - 1) (by omega)
        have hi1 : i - 1 < l.length := by omega
        have h0n : 0 < i := by omega
        have e1 : ((i : Int) - 1) = ((i - 1 : Nat) : Int) := by omega
        have hp : prevAt l i = some l[i - 1] := by
          unfold prevAt
          rw [if_neg (by omega), List.getElem?_eq_getElem hi1]
        rw [hp] at hn
        simp only at hn
        rw [e1] at hw2
        cases hu : notUp l[i] l[i - 1] with
        | true =>
          rw [hu] at hn
          have hu' : (Op.bytesLess l[i].toList l[i - 1].toList || decide (l[i] = l[i - 1])) = true := hu
          simp [h0n, hw2, e1, hi1, hu', hn]
        | false =>
          rw [hu] at hn
          have hu' : (Op.bytesLess l[i].toList l[i - 1].toList || decide (l[i] = l[i - 1])) = false := hu
          simp [h0n, hw2, e1, hi1, hu']
          exact go_to [] (ih ⟨i + 1, hlt, by rw [prevAt_succ hlt, hn]; simp⟩ (by simp; omega)) (by simp [hw])
      · have hi0 : i = 0 := by omega
        subst hi0
        simp only [prevAt, if_true, Bool.true_and] at hn
        simp
        exact go_to [] (ih ⟨1, hlt, by rw [hn]; simp [prevAt, List.getElem?_eq_getElem hlt]⟩ (by simp; omega)) (by simp [wr64 1 (by omega)])
  · rw [List.drop_eq_nil_of_le (by omega)] at hn
    simp [hlt, hn, riseFrom]
end Go.Proofs.D
