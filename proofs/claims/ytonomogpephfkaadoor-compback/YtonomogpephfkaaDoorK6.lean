/-
  NODES: how deep, how large; what is wrong with one.
-/
import Derived.Test.YtonomogpephfkaaDoorK5
set_option linter.unusedVariables false
set_option linter.unusedSimpArgs false
set_option linter.unusedSimpArgs false
namespace Go.Proofs.D
open Go Go.Abs Go.RowKit
attribute [local simp] VC stepV stepTop stepReg stepOp stMove stPick stBin stUn stConv stBox stAlloc stLoad stStore stFieldAddr stField stExtract stNilCheck stMakeFunc stIndexAddr stIndex stLen
  stBuild placesOf fillA stBuildSlice sliceCells repL chunks allPV toPV drawOk drawOk.go mayMakeO mayMake1 disjoint pairOk Oper.apart Oper.looksAt Op.operands Call.operands Region.binds stAppend appBase appTail unName stSlice bndA
  LS.ev LS.get LS.blk LS.put LS.app LS.upd lkS lkH setS setH Nm.eqb guardOf nexts okPair dstOk AV.cellsOf takeAt putAt lkT sliceE fieldT intK isStrT isBoolT abin newOk LS.freshB LS.freshB.go LS.freshB.goH notIn AV.ments AV.ments.mentsL Blk.ments makes upsMents LS.start startL exitTo T T3 outs callSideO callSideD upsR backO freshAll argB onlyIO List.map List.append List.nil_append List.cons_append Nat.blt
  conv convS convH srcs srcOf blkOk leA leA.leL leB leP laid laidM isArg subH retP resAV resL res1 AV.frz AV.frz.frzL evL AV.ren AV.ren.renL Blk.ren renBs blksOf allSome nodupB onlyArgs blksMents callUps keyed inName inName.go backName callSide
set_option maxRecDepth 20000 in
theorem f132 (Gl : Granted) (n : N) : Fun Tryd.prog Gl 132 [n.av] [] (vI n.deep) [] := by
  have hrec : ∀ x ∈ n.kids, Fun Tryd.prog Gl 132 [x.av] [] (vI x.deep) [] := fun x hx => f132 Gl x
  refine fun_of (T := T3) (n := 22) (rs := [.tmp 2]) Tryd.func132 (by kernel_rfl) rfl rfl rfl tok3 mixed (by simp) fun C hC => ?_
  have hd := N.deep_eq n
  refine hC.vc [] 60 ?_
  simp [N.av, N.cells]
  refine hC.call [] (f152 Gl n) (by simp [N.av, N.cells]) ?_
  cases hk : n.isText with
  | true =>
    have hkind : n.kind = textK := by simpa [N.isText] using hk
    rw [if_pos hkind] at hd
    refine hC.vc [] 60 ?_
    simp [hd]
  | false =>
    have hkind : ¬ n.kind = textK := by simpa [N.isText] using hk
    rw [if_neg hkind] at hd
    refine hC.vc [] 60 ?_
    simp [N.cells]
    refine go_len 9 5 (n.kids.map N.pv) (by simp) fun hl => ?_
    rw [List.length_map] at hl
    refine go_loop (ι := {x : Nat × Int // x.1 ≤ n.kids.length ∧ N.deep.go n.kids 0 = N.deep.go (n.kids.drop x.1) x.2}) (fun x => ⟨[(3, vI x.1.2), (9, .pv (nodes n.kids)), (10, vI n.kids.length), (11, vI x.1.1)], []⟩)
      (fun x => n.kids.length - x.1.1) ⟨(0, 0), by simp⟩ [] (by simp) fun x ih => ?_
    obtain ⟨⟨i, d⟩, hi, hn⟩ := x
    simp only at hi hn ih
    refine hC.vc [] 60 ?_
    by_cases hlt : i < n.kids.length
    · have hw1 := wr64 ((i : Int) + 1) (by omega)
      rw [List.drop_eq_getElem_cons hlt] at hn
      simp only [N.deep.go] at hn
      simp [hlt, N.pv_eq]
      refine hC.call [] (hrec n.kids[i] (by simp)) (by simp [N.av, N.cells]) ?_
      refine hC.vc [] 2 ?_
      simp
      obtain ⟨m, hm⟩ : ∃ m, m = (if d < n.kids[i].deep then n.kids[i].deep else d) := ⟨_, rfl⟩
      rw [← hm] at hn
      refine hC.max (k := .i64) (a := d) (b := n.kids[i].deep) rfl rfl rfl (by simp) ?_
      rw [show (if n.kids[i].deep > d then n.kids[i].deep else d) = m from hm.symm]
      refine hC.vc [] 60 ?_
      simp
      exact go_to [] (ih ⟨(i + 1, _), hlt, hn⟩ (by simp; omega)) (by simp [hw1])
    · rw [List.drop_eq_nil_of_le (by omega)] at hn
      simp only [N.deep.go] at hn
      simp [hlt, hd, hn]
termination_by SizeOf.sizeOf n
decreasing_by exact N.kids_lt hx
theorem f155k (Gl : Granted) (l : List N) (hrec : ∀ x ∈ l, Fun Tryd.prog Gl 133 [x.av] [] (vI x.size) []) : Fun Tryd.prog Gl 155 [.pv (nodes l)] [] (vI (N.size.go l 0)) [] := by
  refine fun_of (T := T3) (n := 18) (rs := [.tmp 2]) Tryd.func155 (by kernel_rfl) rfl rfl rfl tok3 mixed (by simp) fun C hC => ?_
  refine hC.vc [] 60 ?_
  simp
  refine go_len 0 5 (l.map N.pv) (by simp) fun hl => ?_
  rw [List.length_map] at hl
  refine go_loop (ι := {x : Nat × Int // x.1 ≤ l.length ∧ N.size.go l 0 = N.size.go (l.drop x.1) x.2}) (fun x => ⟨[(3, vI x.1.2), (6, .pv (nodes l)), (7, vI l.length), (8, vI x.1.1)], []⟩)
    (fun x => l.length - x.1.1) ⟨(0, 0), by simp⟩ [] (by simp) fun x ih => ?_
  obtain ⟨⟨i, d⟩, hi, hn⟩ := x
  simp only at hi hn ih
  refine hC.vc [] 60 ?_
  by_cases hlt : i < l.length
  · have hw1 := wr64 ((i : Int) + 1) (by omega)
    rw [List.drop_eq_getElem_cons hlt] at hn
    simp only [N.size.go] at hn
    simp [hlt, N.pv_eq]
    refine hC.call [] (hrec l[i] (by simp)) (by simp [N.av, N.cells]) ?_
    refine hC.vc [] 60 ?_
    simp
    exact go_to [] (ih ⟨(i + 1, _), hlt, hn⟩ (by simp; omega)) (by simp [hw1])
  · rw [List.drop_eq_nil_of_le (by omega)] at hn
    simp only [N.size.go] at hn
    simp [hlt, hn]
set_option maxRecDepth 20000 in
theorem f133 (Gl : Granted) (n : N) (hw : n.wt ≤ 100000) : Fun Tryd.prog Gl 133 [n.av] [] (vI n.size) [] := by
  obtain ⟨z1, z2, z3, z4, z5, z6, z7, z8⟩ := N.lim hw
  have hrec : ∀ x ∈ n.kids, Fun Tryd.prog Gl 133 [x.av] [] (vI x.size) [] := fun x hx => f133 Gl x (z5 x hx)
  refine fun_of (T := T3) (n := 12) (rs := [.tmp 2]) Tryd.func133 (by kernel_rfl) rfl rfl rfl tok3 mixed (by simp) fun C hC => ?_
  have hd := N.size_eq n
  refine hC.vc [] 60 ?_
  simp [N.av, N.cells]
  refine hC.call [] (f152 Gl n) (by simp [N.av, N.cells]) ?_
  cases hk : n.isText with
  | true =>
    have hkind : n.kind = textK := by simpa [N.isText] using hk
    rw [if_pos hkind] at hd
    refine hC.vc [] 60 ?_
    simp [N.cells]
    refine hC.call [] (f149 Gl n.text (by omega)) (by simp) ?_
    refine hC.vc [] 60 ?_
    simp [hd]
  | false =>
    have hkind : ¬ n.kind = textK := by simpa [N.isText] using hk
    rw [if_neg hkind] at hd
    refine hC.vc [] 60 ?_
    simp [N.cells]
    refine hC.call [] (f155k Gl n.kids hrec) (by simp) ?_
    refine hC.vc [] 60 ?_
    simp [hd]
termination_by SizeOf.sizeOf n
decreasing_by exact N.kids_lt hx
theorem f155 (Gl : Granted) (l : List N) (hw : ∀ x ∈ l, x.wt ≤ 100000) : Fun Tryd.prog Gl 155 [.pv (nodes l)] [] (vI (N.size.go l 0)) [] :=
  f155k Gl l fun x hx => f133 Gl x (hw x hx)
theorem f109 (n : N) (hw : n.wt ≤ 100000) : Fun Tryd.prog tabs 109 [n.av] [] (vI n.check) [] := by
  refine fun_of (T := T3) (n := 15) (rs := [.tmp 2]) Tryd.func109 (by kernel_rfl) rfl rfl rfl tok3 mixed (by simp) fun C hC => ?_
  refine hC.vc [] 60 ?_
  simp [N.av, N.cells]
  refine hC.call [] (f131 n hw) (by simp [N.av, N.cells]) ?_
  cases hf : n.form with
  | false =>
    have : n.check = 2 := by simp [N.check, hf]
    refine hC.vc [] 60 ?_
    simp [this]
  | true =>
    refine hC.vc [] 60 ?_
    simp [N.cells]
    refine hC.call [] (f132 tabs n) (by simp [N.av, N.cells]) ?_
    by_cases h1 : 40 < n.deep
    · have : n.check = 4 := by simp [N.check, hf, h1]
      refine hC.vc [] 60 ?_
      simp [h1, this]
    · refine hC.vc [] 60 ?_
      simp [N.cells, h1]
      refine hC.call [] (f133 tabs n hw) (by simp [N.av, N.cells]) ?_
      by_cases h2 : 4000 < n.size
      · have : n.check = 5 := by simp [N.check, hf, h1, h2]
        refine hC.vc [] 60 ?_
        simp [h2, this]
      · have : n.check = 0 := by simp [N.check, hf, h1, h2]
        refine hC.vc [] 60 ?_
        simp [h2, this]
end Go.Proofs.D
