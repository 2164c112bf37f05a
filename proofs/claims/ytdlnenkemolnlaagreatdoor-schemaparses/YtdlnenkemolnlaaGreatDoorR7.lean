/-
  THE ANSWER TO CHAPTER 1: how deep, how large; what is wrong with a node; are two the same?
-/
import Derived.Test.YtdlnenkemolnlaaGreatDoorB6
import Derived.Test.YtdlnenkemolnlaaGreatDoorT1
set_option linter.unusedVariables false
set_option linter.unusedSimpArgs false
namespace Go.Proofs.D
open Go Go.Abs Go.RowKit
attribute [local simp] VC VCS stepVS stepTopS firstId memN bigB unmark markT mkOff calmP keepT boundB stepV stepTop stepReg stepOp stMove stPick stBin stUn stConv stBox stAlloc stLoad stStore stFieldAddr stField stExtract stNilCheck stMakeFunc stIndexAddr stIndex stLen
  stBuild placesOf fillA stBuildSlice sliceCells repL chunks allPV toPV drawOk drawOk.go mayMakeO mayMake1 disjoint pairOk Oper.apart Oper.looksAt Op.operands Call.operands Region.binds stAppend appBase appTail unName stSlice bndA
  LS.ev LS.get LS.blk LS.put LS.app LS.upd lkS lkH setS setH Nm.eqb guardOf nexts okPair dstOk AV.cellsOf takeAt putAt lkT sliceE fieldT intK isStrT isBoolT abin newOk LS.freshB LS.freshB.go LS.freshB.goH notIn AV.ments AV.ments.mentsL Blk.ments makes upsMents LS.start startL exitTo T T3 T4 outs callSideR callSideO callSideD upsR backO freshAll argB onlyIO List.map List.append List.nil_append List.cons_append Nat.blt
  conv convS convH srcs srcOf blkOk leA leA.leL Go.Abs.leB leP laid laidM laidG isArg subH retP resAV resL res1 AV.frz AV.frz.frzL evL AV.ren AV.ren.renL Blk.ren renBs blksOf allSome nodupB onlyArgs blksMents callUps keyed inName inName.go backName callSide
set_option maxRecDepth 20000 in
theorem g75 (Gl : Granted) (n : N) : Fun Tryz.prog Gl 75 [n.av] [] (vI n.deep) [] := by
  have hrec : ∀ x ∈ n.kids, Fun Tryz.prog Gl 75 [x.av] [] (vI x.deep) [] := fun x hx => g75 Gl x
  refine fun_of (T := T4) (n := 25) (rs := [.tmp 2]) Tryz.func75 (by kernel_rfl) rfl rfl rfl tok4 mixed (by simp) fun C hC => ?_
  have hd := N.deep_eq n
  by_cases hkind : n.kind = textK
  · rw [if_pos hkind] at hd
    have hkind' : n.kind = ⟨#[116, 101, 120, 116]⟩ := hkind
    refine hC.go [] 60 ?_
    simp [N.av, N.cells, hkind', hd]
  · rw [if_neg hkind] at hd
    have hkind' : ¬ n.kind = ⟨#[116, 101, 120, 116]⟩ := hkind
    refine hC.go [] 60 ?_
    simp [N.av, N.cells, hkind']
    refine go_lenB (.loc 1) 87 n.cells 4 5 (n.kids.map N.pv) (by simp [N.cells]) rfl fun hl => ?_
    rw [List.length_map] at hl
    refine go_loop (ι := {x : Nat × Int // x.1 ≤ n.kids.length ∧ N.deep.go n.kids 0 = N.deep.go (n.kids.drop x.1) x.2}) (fun x => ⟨[(1, .ptr (.loc 1) 0), (3, vI x.1.2), (4, vI x.1.1)], [(.loc 1, some (.box 87 n.cells))]⟩)
      (fun x => n.kids.length - x.1.1) ⟨(0, 0), by simp⟩ [] (by simp [N.cells]) fun x ih => ?_
    obtain ⟨⟨i, d⟩, hi, hn⟩ := x
    simp only at hi hn ih
    refine hC.go [] 60 ?_
    by_cases hlt : i < n.kids.length
    · have hw1 := wr64 ((i : Int) + 1) (by omega)
      rw [List.drop_eq_getElem_cons hlt] at hn
      simp only [N.deep.go] at hn
      simp [hlt, N.pv_eq, N.cells]
      refine hC.call [] (hrec n.kids[i] (by simp)) (by simp [N.av, N.cells]) ?_
      refine hC.go [] 2 ?_
      simp
      obtain ⟨m, hm⟩ : ∃ m, m = (if d < n.kids[i].deep then n.kids[i].deep else d) := ⟨_, rfl⟩
      rw [← hm] at hn
      refine hC.max (k := .i64) (a := d) (b := n.kids[i].deep) rfl rfl rfl (by simp) ?_
      rw [show (if n.kids[i].deep > d then n.kids[i].deep else d) = m from hm.symm]
      refine hC.go [] 60 ?_
      simp
      exact go_to [] (ih ⟨(i + 1, _), hlt, hn⟩ (by simp; omega)) (by simp [hw1, N.cells])
    · rw [List.drop_eq_nil_of_le (by omega)] at hn
      simp only [N.deep.go] at hn
      have hlt' : ¬ (i : Int) < n.kids.length := by omega
      simp [hlt, hd, hn, N.cells]
termination_by SizeOf.sizeOf n
decreasing_by exact N.kids_lt hx
theorem g122k (Gl : Granted) (l : List N) (hrec : ∀ x ∈ l, Fun Tryz.prog Gl 76 [x.av] [] (vI x.size) []) : Fun Tryz.prog Gl 122 [.pv (nodes l)] [] (vI (N.size.go l 0)) [] := by
  refine fun_of (T := T4) (n := 19) (rs := [.tmp 2]) Tryz.func122 (by kernel_rfl) rfl rfl rfl tok4 mixed (by simp) fun C hC => ?_
  refine hC.go [] 60 ?_
  simp
  refine go_len 0 5 (l.map N.pv) (by simp) fun hl => ?_
  rw [List.length_map] at hl
  refine go_loop (ι := {x : Nat × Int // x.1 ≤ l.length ∧ N.size.go l 0 = N.size.go (l.drop x.1) x.2}) (fun x => ⟨[(0, .pv (nodes l)), (3, vI x.1.2), (4, vI x.1.1)], []⟩)
    (fun x => l.length - x.1.1) ⟨(0, 0), by simp⟩ [] (by simp) fun x ih => ?_
  obtain ⟨⟨i, d⟩, hi, hn⟩ := x
  simp only at hi hn ih
  refine hC.go [] 60 ?_
  by_cases hlt : i < l.length
  · have hw1 := wr64 ((i : Int) + 1) (by omega)
    rw [List.drop_eq_getElem_cons hlt] at hn
    simp only [N.size.go] at hn
    simp [hlt, N.pv_eq]
    refine hC.call [] (hrec l[i] (by simp)) (by simp [N.av, N.cells]) ?_
    refine hC.go [] 60 ?_
    simp
    exact go_to [] (ih ⟨(i + 1, _), hlt, hn⟩ (by simp; omega)) (by simp [hw1])
  · rw [List.drop_eq_nil_of_le (by omega)] at hn
    simp only [N.size.go] at hn
    simp [hlt, hn]
set_option maxRecDepth 20000 in
theorem g76 (Gl : Granted) (n : N) (hw : n.wt ≤ 100000) : Fun Tryz.prog Gl 76 [n.av] [] (vI n.size) [] := by
  obtain ⟨z1, z2, z3, z4, z5, z6, z7, z8⟩ := N.lim hw
  have hrec : ∀ x ∈ n.kids, Fun Tryz.prog Gl 76 [x.av] [] (vI x.size) [] := fun x hx => g76 Gl x (z5 x hx)
  refine fun_of (T := T4) (n := 20) (rs := [.tmp 2]) Tryz.func76 (by kernel_rfl) rfl rfl rfl tok4 mixed (by simp) fun C hC => ?_
  have hd := N.size_eq n
  by_cases hkind : n.kind = textK
  · rw [if_pos hkind] at hd
    have hkind' : n.kind = ⟨#[116, 101, 120, 116]⟩ := hkind
    have hc := runesI_count n.text
    refine hC.go [] 60 ?_
    simp [N.av, N.cells, hkind']
    refine hC.call [] (g119 Gl n.text (by omega)) (by simp) ?_
    refine hC.go [] 60 ?_
    simp [hd, hc]
  · rw [if_neg hkind] at hd
    have hkind' : ¬ n.kind = ⟨#[116, 101, 120, 116]⟩ := hkind
    refine hC.go [] 60 ?_
    simp [N.av, N.cells, hkind']
    refine hC.call [] (g122k Gl n.kids hrec) (by simp) ?_
    refine hC.go [] 60 ?_
    simp [hd]
termination_by SizeOf.sizeOf n
decreasing_by exact N.kids_lt hx
theorem g122 (Gl : Granted) (l : List N) (hw : ∀ x ∈ l, x.wt ≤ 100000) : Fun Tryz.prog Gl 122 [.pv (nodes l)] [] (vI (N.size.go l 0)) [] :=
  g122k Gl l fun x hx => g76 Gl x (hw x hx)
theorem g39 (Gl : Granted) (n : N) (hw : n.wt ≤ 100000) : Fun Tryz.prog Gl 39 [n.av] [] (vI n.check) [] := by
  refine fun_of (T := T4) (n := 12) (rs := [.tmp 2]) Tryz.func39 (by kernel_rfl) rfl rfl rfl tok4 mixed (by simp) fun C hC => ?_
  refine hC.go [] 60 ?_
  simp [N.av, N.cells]
  refine hC.call [] (g74 Gl n hw) (by simp [N.av, N.cells]) ?_
  cases hf : n.form with
  | false =>
    have : n.check = 2 := by simp [N.check, hf]
    refine hC.go [] 60 ?_
    simp [this]
  | true =>
    refine hC.go [] 60 ?_
    simp [N.cells]
    refine hC.call [] (g75 Gl n) (by simp [N.av, N.cells]) ?_
    by_cases h1 : 40 < n.deep
    · have : n.check = 4 := by simp [N.check, hf, h1]
      refine hC.go [] 60 ?_
      simp [h1, this]
    · refine hC.go [] 60 ?_
      simp [N.cells, h1]
      refine hC.call [] (g76 Gl n hw) (by simp [N.av, N.cells]) ?_
      by_cases h2 : 4000 < n.size
      · have : n.check = 5 := by simp [N.check, hf, h1, h2]
        refine hC.go [] 60 ?_
        simp [h2, this]
      · have : n.check = 0 := by simp [N.check, hf, h1, h2]
        refine hC.go [] 60 ?_
        simp [h2, this]
theorem g45k (Gl : Granted) (l m : List N) (hf : ∀ x ∈ l, ∀ y : N, Fun Tryz.prog Gl 88 [x.av, y.av] [] (vB (decide (x = y))) []) : Fun Tryz.prog Gl 45 [.pv (nodes l), .pv (nodes m)] [] (vB (decide (l = m))) [] := by
  refine fun_of (T := T4) (n := 27) (rs := [.tmp 4]) Tryz.func45 (by kernel_rfl) rfl rfl rfl tok4 mixed (by simp) fun C hC => ?_
  by_cases h3 : (l.length : Int) = m.length
  · have h3' : l.length = m.length := by omega
    refine hC.go [] 60 ?_
    simp [h3]
    refine go_len 0 5 (l.map N.pv) (by simp) fun hk => ?_
    rw [List.length_map] at hk
    refine go_loop (ι := {i : Nat // i ≤ l.length ∧ decide (l = m) = decide (l.drop i = m.drop i)}) (fun x => ⟨[(0, .pv (nodes l)), (1, .pv (nodes m)), (5, vI x.1)], []⟩)
      (fun x => l.length - x.1) ⟨0, by simp⟩ [] (by simp) fun x ih => ?_
    obtain ⟨i, hi, hn⟩ := x
    simp only at hi hn ih
    refine hC.go [] 60 ?_
    by_cases hlt : i < m.length
    · have hlt' : i < l.length := by omega
      rw [dec_drop hlt' hlt] at hn
      have hw := wr64 ((i : Int) + 1) (by omega)
      simp [hlt, hlt', h3]
      refine hC.drawn (by kernel_rfl) (by simp) ?_
      refine hC.go [] 60 ?_
      simp [hlt, hlt', N.pv_eq]
      refine hC.call [] (hf l[i] (by simp) m[i]) (by simp [N.av, N.cells]) ?_
      refine hC.go [] 60 ?_
      cases he : decide (l[i] = m[i]) with
      | true =>
        rw [he, Bool.true_and] at hn
        simp
        exact go_to [] (ih ⟨i + 1, hlt', hn⟩ (by simp; omega)) (by simp [hw])
      | false =>
        rw [he, Bool.false_and] at hn
        simp [hn]
    · rw [dec_end (by omega) (by omega)] at hn
      have hlt' : ¬ i < l.length := by omega
      simp [hlt, hlt', hn]
  · refine hC.go [] 60 ?_
    simp [h3, dec_len h3]
set_option maxRecDepth 20000 in
set_option maxHeartbeats 4000000 in
theorem g88 (Gl : Granted) (a b : N) : Fun Tryz.prog Gl 88 [a.av, b.av] [] (vB (decide (a = b))) [] := by
  have hk : ∀ x ∈ a.kids, ∀ y : N, Fun Tryz.prog Gl 88 [x.av, y.av] [] (vB (decide (x = y))) [] := fun x hx y => g88 Gl x y
  have hd := N.dec a b
  refine fun_of (T := T4) (n := 58) (rs := [.tmp 4]) Tryz.func88 (by kernel_rfl) rfl rfl rfl tok4 mixed (by simp) fun C hC => ?_
  by_cases h1 : a.kind = b.kind
  · by_cases h2 : a.text = b.text
    · simp only [h1, h2, decide_true, Bool.true_and] at hd
      refine hC.go [] 60 ?_
      simp [N.av, N.cells, h1, h2]
      refine hC.call [] (g121 Gl a.marks b.marks) (by simp) ?_
      cases h3 : decide (a.marks = b.marks) with
      | false =>
        rw [h3, Bool.false_and, Bool.false_and] at hd
        refine hC.go [] 60 ?_
        simp [hd, N.cells]
      | true =>
        rw [h3, Bool.true_and] at hd
        by_cases h4 : (a.attrs.length : Int) = b.attrs.length
        · have h4' : a.attrs.length = b.attrs.length := by omega
          refine hC.go [] 60 ?_
          simp [N.cells, h4]
          refine go_lenB (.loc 2) 87 a.cells 3 2 (a.attrs.map fun p => [.val (.string p.1), .val (.string p.2)]) (by simp [N.cells, h1, h2]) rfl fun hl => ?_
          rw [List.length_map] at hl
          refine go_loop (ι := {i : Nat // i ≤ a.attrs.length ∧ decide (a.attrs = b.attrs) = decide (a.attrs.drop i = b.attrs.drop i)}) (fun x => ⟨[(2, .ptr (.loc 2) 0), (3, .ptr (.loc 3) 0), (5, vI x.1)], [(.loc 2, some (.box 87 a.cells)), (.loc 3, some (.box 87 b.cells))]⟩)
            (fun x => a.attrs.length - x.1) ⟨0, by simp⟩ [] (by simp [N.cells, h1, h2]) fun x ih => ?_
          obtain ⟨i, hi, hn⟩ := x
          simp only at hi hn ih
          refine hC.go [] 60 ?_
          by_cases hlt : i < b.attrs.length
          · have hlt' : i < a.attrs.length := by omega
            rw [dec_drop hlt' hlt] at hn
            have hw := wr64 ((i : Int) + 1) (by omega)
            simp [hlt, hlt', h4, N.cells]
            refine hC.drawn (by kernel_rfl) (by simp) ?_
            refine hC.go [] 60 ?_
            simp [hlt, hlt', N.cells]
            refine hC.neqAgg (a := a.attrs[i].1) (b := a.attrs[i].2) (c := b.attrs[i].1) (d := b.attrs[i].2) (fun w => attr_cmp _ _ _ _ w) rfl (by simp) ?_
            refine hC.go [] 60 ?_
            by_cases he : a.attrs[i] = b.attrs[i]
            · have he' : (a.attrs[i].1, a.attrs[i].2) = (b.attrs[i].1, b.attrs[i].2) := by rw [he]
              simp only [he', decide_true, Bool.not_true]
              simp
              refine go_to [] (ih ⟨i + 1, hlt', by rw [hn, he]; simp⟩ (by simp; omega)) (by simp [hw, N.cells])
            · have he' : ¬ (a.attrs[i].1, a.attrs[i].2) = (b.attrs[i].1, b.attrs[i].2) := fun e => he (by simpa [Prod.ext_iff] using e)
              have : decide (a = b) = false := by rw [hd, hn]; simp [he]
              simp only [he', decide_false, Bool.not_false]
              simp [this]
          · rw [dec_end (by omega) (by omega)] at hn
            rw [hn, Bool.true_and] at hd
            have hlt' : ¬ i < a.attrs.length := by omega
            simp [hlt, hlt', N.cells]
            refine hC.call [] (g45k Gl a.kids b.kids hk) (by simp) ?_
            refine hC.go [] 60 ?_
            simp [hd]
        · have : decide (a = b) = false := by rw [hd, dec_len h4]; rfl
          refine hC.go [] 60 ?_
          simp [N.cells, h4, this]
    · have : decide (a = b) = false := by rw [hd]; simp [h2]
      refine hC.go [] 60 ?_
      simp [N.av, N.cells, h1, h2, this]
  · have : decide (a = b) = false := by rw [hd]; simp [h1]
    refine hC.go [] 60 ?_
    simp [N.av, N.cells, h1, this]
termination_by SizeOf.sizeOf a
decreasing_by exact N.kids_lt hx
theorem g45 (Gl : Granted) (l m : List N) : Fun Tryz.prog Gl 45 [.pv (nodes l), .pv (nodes m)] [] (vB (decide (l = m))) [] := g45k Gl l m fun x _ y => g88 Gl x y
end Go.Proofs.D
/-
  COMPLEMENTS as the answer has them; are two the same? A text between quotes.
-/
set_option linter.unusedVariables false
set_option linter.unusedSimpArgs false
namespace Go.Proofs.D
open Go Go.Abs Go.RowKit
attribute [local simp] VC VCS stepVS stepTopS firstId memN bigB unmark markT mkOff calmP keepT boundB stepV stepTop stepReg stepOp stMove stPick stBin stUn stConv stBox stAlloc stLoad stStore stFieldAddr stField stExtract stNilCheck stMakeFunc stIndexAddr stIndex stLen
  stBuild placesOf fillA stBuildSlice sliceCells repL chunks allPV toPV drawOk drawOk.go mayMakeO mayMake1 disjoint pairOk Oper.apart Oper.looksAt Op.operands Call.operands Region.binds stAppend appBase appTail unName stSlice bndA
  LS.ev LS.get LS.blk LS.put LS.app LS.upd lkS lkH setS setH Nm.eqb guardOf nexts okPair dstOk AV.cellsOf takeAt putAt lkT sliceE fieldT intK isStrT isBoolT abin newOk LS.freshB LS.freshB.go LS.freshB.goH notIn AV.ments AV.ments.mentsL Blk.ments makes upsMents LS.start startL exitTo T T3 T4 outs callSideR callSideO callSideD upsR backO freshAll argB onlyIO List.map List.append List.nil_append List.cons_append Nat.blt
  conv convS convH srcs srcOf blkOk leA leA.leL Go.Abs.leB leP laid laidM laidG isArg subH retP resAV resL res1 AV.frz AV.frz.frzL evL AV.ren AV.ren.renL Blk.ren renBs blksOf allSome nodupB onlyArgs blksMents callUps keyed inName inName.go backName callSide
theorem Ent.pv_eq' (e : Ent) : e.pv = [.val (.bool e.has), .val (.string e.value), nodes e.rest] := rfl
theorem take_row {α β : Type} (f : α → β) {l : List α} {i : Nat} (h : i < l.length) : (l.map f).take (i + 1) = (l.map f).take i ++ [f l[i]] := by
  rw [List.take_add_one, List.getElem?_map, List.getElem?_eq_getElem h]; rfl
set_option maxRecDepth 20000 in
set_option maxHeartbeats 4000000 in
theorem g11 (Gl : Granted) (c : Cm) (hc : c.length ≤ 1000000) (hl : ∀ l ∈ c, l.length ≤ 1000000) : Fun Tryz.prog Gl 11 [.pv (comp c)] [] (.pv (comp c)) [] := by
  refine fun_of (T := T4) (n := 55) (rs := [.tmp 2]) Tryz.func11 (by kernel_rfl) rfl rfl rfl tok4 mixed (by simp) fun C hC => ?_
  refine hC.go [] 60 ?_
  simp
  refine go_loop (ι := {i : Nat // i ≤ c.length}) (fun x => ⟨[(0, .pv (comp c)), (3, .own (.can 0)), (4, vI x.1)], [(.can 0, some (.row 100 1 ((c.map fun l => [slot l]).take x.1)))]⟩)
    (fun x => c.length - x.1) ⟨0, by simp⟩ [(.can 0, .nil)] (by simp) fun x ih => ?_
  obtain ⟨i, hi⟩ := x
  simp only at hi ih
  refine hC.go [] 60 ?_
  by_cases hlt : i < c.length
  · have hw1 := wr64 ((i : Int) + 1) (by omega)
    obtain ⟨l, hll⟩ : ∃ l, c[i] = l := ⟨_, rfl⟩
    have hln : l.length ≤ 1000000 := hl l (by rw [← hll]; simp)
    simp [hlt]
    refine go_loop (ι := {j : Nat // j ≤ l.length}) (fun x => ⟨[(0, .pv (comp c)), (3, .own (.can 0)), (4, vI i), (5, .own (.can 1)), (6, vI x.1)], [(.can 0, some (.row 100 1 ((c.map fun l => [slot l]).take i))), (.can 1, some (.row 101 3 ((l.map Ent.pv).take x.1)))]⟩)
      (fun x => l.length - x.1) ⟨0, by simp⟩ [(.can 1, .nil)] (by simp) fun x ih2 => ?_
    obtain ⟨j, hj⟩ := x
    simp only at hj ih2
    by_cases hlj : j < l.length
    · have hw2 := wr64 ((j : Int) + 1) (by omega)
      refine hC.go [] 60 ?_
      simp [hlt, hll, hlj]
      refine hC.drawn (by kernel_rfl) (by simp) ?_
      refine hC.go [] 60 ?_
      simp [hlt, hll, hlj, Ent.pv_eq']
      refine ⟨by omega, ?_⟩
      exact go_to [(.can 1, .nm (.loc 49))] (ih2 ⟨j + 1, hlj⟩ (by simp; omega)) (by simp [hw2, take_row Ent.pv hlj, Ent.pv_eq'])
    · refine hC.til [10] [] 60 ?_
      simp [hlt, hll, hlj]
      have htk : (l.map Ent.pv).take j = l.map Ent.pv := List.take_of_length_le (by simp; omega)
      rw [htk]
      refine go_to (M := ⟨[(0, .pv (comp c)), (3, .own (.can 0)), (4, vI i), (5, .pv (slot l))], [(.can 0, some (.row 100 1 ((c.map fun l => [slot l]).take i)))]⟩) [] (hC.go [] 60 ?_) (by simp)
      simp
      refine ⟨by omega, ?_⟩
      exact go_to [(.can 0, .nm (.loc 53))] (ih ⟨i + 1, hlt⟩ (by simp; omega)) (by simp [hw1, take_row (fun l => [slot l]) hlt, hll])
  · have htk : (c.map fun l => [slot l]).take i = c.map fun l => [slot l] := List.take_of_length_le (by simp; omega)
    have hlt' : ¬ (i : Int) < c.length := by omega
    simp [hlt, htk]
set_option maxRecDepth 20000 in
set_option maxHeartbeats 4000000 in
theorem g14 (Gl : Granted) (a b : Cm) (hla : ∀ l ∈ a, l.length ≤ 1000000) : Fun Tryz.prog Gl 14 [.pv (comp a), .pv (comp b)] [] (vB (decide (a = b))) [] := by
  refine fun_of (T := T4) (n := 74) (rs := [.tmp 4]) Tryz.func14 (by kernel_rfl) rfl rfl rfl tok4 mixed (by simp) fun C hC => ?_
  by_cases h3 : (a.length : Int) = b.length
  · have h3' : a.length = b.length := by omega
    refine hC.go [] 60 ?_
    simp [h3]
    refine go_len 0 1 (a.map fun l => [slot l]) (by simp) fun hk => ?_
    rw [List.length_map] at hk
    refine go_loop (ι := {i : Nat // i ≤ a.length ∧ decide (a = b) = decide (a.drop i = b.drop i)}) (fun x => ⟨[(0, .pv (comp a)), (1, .pv (comp b)), (5, vI x.1)], []⟩)
      (fun x => a.length - x.1) ⟨0, by simp⟩ [] (by simp) fun x ih => ?_
    obtain ⟨i, hi, hn⟩ := x
    simp only at hi hn ih
    by_cases hlt : i < b.length
    · have hlt' : i < a.length := by omega
      rw [dec_drop hlt' hlt] at hn
      have hw := wr64 ((i : Int) + 1) (by omega)
      obtain ⟨l, hl⟩ : ∃ l, a[i] = l := ⟨_, rfl⟩
      obtain ⟨m, hm⟩ : ∃ m, b[i] = m := ⟨_, rfl⟩
      rw [hl, hm] at hn
      refine hC.go [] 60 ?_
      simp [hlt, hlt', h3]
      refine hC.drawn (by kernel_rfl) (by simp) ?_
      refine hC.go [] 60 ?_
      by_cases h4 : (l.length : Int) = m.length
      · have h4' : l.length = m.length := by omega
        simp [hlt, hlt', hl, hm, h4]
        refine hC.go [] 60 ?_
        simp
        refine go_loop (ι := {j : Nat // j ≤ l.length ∧ decide (l = m) = decide (l.drop j = m.drop j)}) (fun x => ⟨[(0, .pv (comp a)), (1, .pv (comp b)), (5, vI i), (6, vI x.1)], []⟩)
          (fun x => l.length - x.1) ⟨0, by simp⟩ [] (by simp) fun x ih2 => ?_
        obtain ⟨j, hj, hn2⟩ := x
        simp only at hj hn2 ih2
        by_cases hlj : j < m.length
        · have hlj' : j < l.length := by omega
          rw [dec_drop hlj' hlj] at hn2
          have hw2 := wr64 ((j : Int) + 1) (by have := hla l (by rw [← hl]; simp); omega)
          obtain ⟨x, hx⟩ : ∃ x, l[j] = x := ⟨_, rfl⟩
          obtain ⟨y, hy⟩ : ∃ y, m[j] = y := ⟨_, rfl⟩
          rw [hx, hy] at hn2
          have hd := Ent.dec x y
          cases e1 : (x.has == y.has) with
          | false =>
            rw [e1, Bool.false_and, Bool.false_and] at hd
            rw [hd, Bool.false_and] at hn2
            rw [hn2, Bool.false_and] at hn
            refine hC.go [] 100 ?_
            simp [hlt, hlt', hl, hm, h4, hlj, hlj', hx, hy, Ent.pv_eq', e1, hn]
          | true =>
            by_cases e2 : x.value = y.value
            · simp only [e1, e2, decide_true, Bool.true_and] at hd
              refine hC.go [] 100 ?_
              simp [hlt, hlt', hl, hm, h4, hlj, hlj', hx, hy, Ent.pv_eq', e1, e2]
              refine hC.call [] (g45 Gl x.rest y.rest) (by simp) ?_
              refine hC.go [] 100 ?_
              cases e3 : decide (x.rest = y.rest) with
              | false =>
                rw [e3] at hd
                rw [hd, Bool.false_and] at hn2
                rw [hn2, Bool.false_and] at hn
                simp [hn]
              | true =>
                rw [e3] at hd
                rw [hd, Bool.true_and] at hn2
                simp
                exact go_to [] (ih2 ⟨j + 1, hlj', hn2⟩ (by simp; omega)) (by simp [hw2])
            · simp only [e2, decide_false, Bool.false_and, Bool.and_false] at hd
              rw [hd, Bool.false_and] at hn2
              rw [hn2, Bool.false_and] at hn
              refine hC.go [] 100 ?_
              simp [hlt, hlt', hl, hm, h4, hlj, hlj', hx, hy, Ent.pv_eq', e1, e2, hn]
        · rw [dec_end (by omega) (by omega)] at hn2
          rw [hn2, Bool.true_and] at hn
          have hlj' : ¬ j < l.length := by omega
          refine hC.go [] 100 ?_
          simp [hlt, hlt', hl, hm, h4, hlj, hlj']
          exact go_to [] (ih ⟨i + 1, hlt', hn⟩ (by simp; omega)) (by simp [hw])
      · have : decide (l = m) = false := dec_len h4
        rw [this, Bool.false_and] at hn
        simp [hlt, hlt', hl, hm, h4, hn]
    · rw [dec_end (by omega) (by omega)] at hn
      have hlt' : ¬ i < a.length := by omega
      refine hC.go [] 100 ?_
      simp [hlt, hlt', hn]
  · refine hC.go [] 60 ?_
    simp [h3, dec_len h3]
end Go.Proofs.D
/-
  THE ANSWER TO CHAPTER 2: how a node is written.
-/
set_option linter.unusedVariables false
set_option linter.unusedSimpArgs false
namespace Go.Proofs.D
open Go Go.Abs Go.RowKit
attribute [local simp] VC VCS stepVS stepTopS firstId memN bigB unmark markT mkOff calmP keepT boundB stepV stepTop stepReg stepOp stMove stPick stBin stUn stConv stBox stAlloc stLoad stStore stFieldAddr stField stExtract stNilCheck stMakeFunc stIndexAddr stIndex stLen
  stBuild placesOf fillA stBuildSlice sliceCells repL chunks allPV toPV drawOk drawOk.go mayMakeO mayMake1 disjoint pairOk Oper.apart Oper.looksAt Op.operands Call.operands Region.binds stAppend appBase appTail unName stSlice bndA
  LS.ev LS.get LS.blk LS.put LS.app LS.upd lkS lkH setS setH Nm.eqb guardOf nexts okPair dstOk AV.cellsOf takeAt putAt lkT sliceE fieldT intK isStrT isBoolT abin newOk LS.freshB LS.freshB.go LS.freshB.goH notIn AV.ments AV.ments.mentsL Blk.ments makes upsMents LS.start startL exitTo T T3 T4 outs callSideR callSideO callSideD upsR backO freshAll argB onlyIO List.map List.append List.nil_append List.cons_append Nat.blt
  conv convS convH srcs srcOf blkOk leA leA.leL Go.Abs.leB leP laid laidM laidG isArg subH retP resAV resL res1 AV.frz AV.frz.frzL evL AV.ren AV.ren.renL Blk.ren renBs blksOf allSome nodupB onlyArgs blksMents callUps keyed inName inName.go backName callSide
theorem bs_app (a b : Bs) : bs a ++ bs b = bs (a ++ b) := bsExt (by simp [bs, ByteArray.data_append])
theorem bs_of (s : ByteArray) : s = bs s.data.toList := bsExt (by simp [bs])
theorem extract1 (s : ByteArray) (i : Nat) (h : i < s.size) : s.extract i (i + 1) = bs [s.data.toList[i]'(by simpa using h)] := bsExt (by
  have h' : i < s.data.toList.length := by simpa using h
  simp only [bs, ByteArray.data_extract]
  simp only [Array.toList_extract, List.extract_eq_take_drop, Nat.add_sub_cancel_left]
  rw [List.drop_eq_getElem_cons h']
  simp)
theorem esc_append (a b : Bs) : esc (a ++ b) = esc a ++ esc b := by
  induction a with
  | nil => rfl
  | cons c l ih =>
    simp only [List.cons_append, esc, ih]
    split <;> rfl
theorem take_snoc {α : Type} {l : List α} {i : Nat} (h : i < l.length) : l.take (i + 1) = l.take i ++ [l[i]] := by
  rw [List.take_add_one, List.getElem?_eq_getElem h]; rfl
set_option maxRecDepth 20000 in
theorem g77 (Gl : Granted) (s : ByteArray) (hs : s.size ≤ 1000000) : Fun Tryz.prog Gl 77 [vS s] [] (vS (bs (quoteB s.data.toList))) [] := by
  refine fun_of (T := T4) (n := 32) (rs := [.tmp 2]) Tryz.func77 (by kernel_rfl) rfl rfl rfl tok4 mixed (by simp) fun C hC => ?_
  obtain ⟨S, hS⟩ : ∃ S, s.data.toList = S := ⟨_, rfl⟩
  have hSl : S.length = s.size := by rw [← hS]; simp
  have k1 : (⟨#[34]⟩ : ByteArray) = bs [34] := rfl
  have k2 : (⟨#[92]⟩ : ByteArray) = bs [92] := rfl
  refine hC.go [] 60 ?_
  simp
  refine go_loop (ι := {i : Nat // i ≤ s.size}) (fun x => ⟨[(0, vS s), (3, vS (bs (34 :: esc (S.take x.1)))), (4, vI x.1)], []⟩)
    (fun x => s.size - x.1) ⟨0, by simp⟩ [] (by simp [esc, k1]) fun x ih => ?_
  obtain ⟨i, hi⟩ := x
  simp only at hi ih
  have hel := esc_len (S.take i)
  rw [List.length_take] at hel
  by_cases hlt : i < s.size
  · have hw := wr64 ((i : Int) + 1) (by omega)
    have hi' : i < S.length := by omega
    have hx := extract1 s i hlt
    have hz := byteAt_list s i hlt
    simp only [hS] at hx hz
    have htk := take_snoc hi'
    obtain ⟨c, hc⟩ : ∃ c, S[i] = c := ⟨_, rfl⟩
    rw [hc] at hx hz htk
    have hsz : ∀ l : Bs, (bs l).size = l.length := fun _ => rfl
    by_cases h1 : byteAt s i = 34
    · have hc1 : c = 34 := by rw [h1] at hz; exact UInt8.toNat_inj.1 (by have : (34 : UInt8).toNat = 34 := rfl; omega)
      have he : esc (S.take (i + 1)) = esc (S.take i) ++ [92, 34] := by rw [htk, esc_append, hc1]; rfl
      refine hC.go [] 60 ?_
      simp [hlt, h1, hw, k2, bs_app, hx, hsz]
      repeat (refine ⟨by omega, ?_⟩)
      exact go_to [] (ih ⟨i + 1, hlt⟩ (by simp; omega)) (by simp [hw, he, hc1])
    · by_cases h2 : byteAt s i = 92
      · have hc1 : c = 92 := by rw [h2] at hz; exact UInt8.toNat_inj.1 (by have : (92 : UInt8).toNat = 92 := rfl; omega)
        have he : esc (S.take (i + 1)) = esc (S.take i) ++ [92, 92] := by rw [htk, esc_append, hc1]; rfl
        refine hC.go [] 60 ?_
        simp [hlt, h2, hw, k2, bs_app, hx, hsz]
        repeat (refine ⟨by omega, ?_⟩)
        exact go_to [] (ih ⟨i + 1, hlt⟩ (by simp; omega)) (by simp [hw, he, hc1])
      · have hc1 : ¬ (c = 92 ∨ c = 34) := by
          rintro (rfl | rfl)
          · exact h2 hz
          · exact h1 hz
        have he : esc (S.take (i + 1)) = esc (S.take i) ++ [c] := by rw [htk, esc_append]; simp [esc, hc1]
        refine hC.go [] 60 ?_
        simp [hlt, h1, h2, hw, bs_app, hx, hsz]
        repeat (refine ⟨by omega, ?_⟩)
        exact go_to [] (ih ⟨i + 1, hlt⟩ (by simp; omega)) (by simp [hw, he])
  · have htk : S.take i = S := List.take_of_length_le (by omega)
    rw [htk]
    refine hC.go [] 60 ?_
    simp [hlt, k1, bs_app, hS, quoteB]
    have hsz : ∀ l : Bs, (bs l).size = l.length := fun _ => rfl
    simp only [hsz, List.length_cons, List.length_nil]
    rw [htk] at hel
    omega
theorem sepBy_snoc (s : UInt8) (l : List Bs) (x : Bs) : sepBy s (l ++ [x]) = if l = [] then x else sepBy s l ++ s :: x := by
  cases l with
  | nil => simp [sepBy, sepTail]
  | cons y r => simp [sepBy, sepTail]
theorem sum_take {α : Type} (f : α → Nat) (l : List α) (i : Nat) : ((l.take i).map f).sum ≤ (l.map f).sum := by
  conv => rhs; rw [← List.take_append_drop i l]
  rw [List.map_append, List.sum_append]
  omega
theorem names1_take (l : List ByteArray) (i : Nat) : names1 (l.take i) ≤ names1 l := sum_take _ l i
theorem attrs1_take (l : List (ByteArray × ByteArray)) (i : Nat) : attrs1 (l.take i) ≤ attrs1 l := sum_take _ l i
theorem sepN_len (s : UInt8) (l : List ByteArray) : (sepBy s (l.map (·.data.toList))).length ≤ names1 l := by
  have hs := sepBy_len s (l.map (·.data.toList))
  have hs2 : ((l.map (·.data.toList)).map fun x => 1 + x.length) = l.map fun s => 1 + s.size := by rw [List.map_map]; rfl
  rw [hs2] at hs
  exact hs
theorem sepA_len (l : List (ByteArray × ByteArray)) : (sepBy 32 (l.map attrB)).length ≤ 4 * attrs1 l := by
  have hs := sepBy_len 32 (l.map attrB)
  refine Nat.le_trans hs ?_
  induction l with
  | nil => simp
  | cons p l ih =>
    have e : p.1.data.toList.length = p.1.size := Array.length_toList
    have e2 : p.2.data.toList.length = p.2.size := Array.length_toList
    have h := esc_len p.2.data.toList
    have := ih (sepBy_len 32 (l.map attrB))
    simp only [List.map_cons, List.sum_cons, attrs1, attrB, quoteB, List.length_append, List.length_cons, List.length_nil] at this ⊢
    omega
theorem bsl (l : Bs) : (bs l).size = l.length := rfl
set_option maxRecDepth 20000 in
set_option maxHeartbeats 4000000 in
theorem g151 (Gl : Granted) (n : N) (hw : n.wt ≤ 100000) : Fun Tryz.prog Gl 151 [n.av] [] (vS (bs n.head)) [] := by
  obtain ⟨z1, z2, z3, z4, z5, z6, z7, z8⟩ := N.lim hw
  obtain ⟨y1, y2⟩ := wt_names hw
  have k0 : (⟨#[60]⟩ : ByteArray) = bs [60] := rfl
  have k1 : (⟨#[62]⟩ : ByteArray) = bs [62] := rfl
  have k2 : (⟨#[40]⟩ : ByteArray) = bs [40] := rfl
  have k3 : (⟨#[41]⟩ : ByteArray) = bs [41] := rfl
  have k4 : (⟨#[61]⟩ : ByteArray) = bs [61] := rfl
  have k5 : (⟨#[44]⟩ : ByteArray) = bs [44] := rfl
  have k6 : (⟨#[32]⟩ : ByteArray) = bs [32] := rfl
  have k7 : (⟨#[]⟩ : ByteArray) = bs [] := rfl
  refine fun_of (T := T4) (n := 74) (rs := [.tmp 2]) Tryz.func151 (by kernel_rfl) rfl rfl rfl tok4 mixed (by simp) fun C hC => ?_
  by_cases hk : n.kind = ⟨#[116, 101, 120, 116]⟩
  · have hh : n.head = headT n.marks := by rw [N.head, if_pos (show n.kind = textK from hk)]
    rw [hh] at hC
    refine hC.go [] 60 ?_
    simp [N.av, N.cells, hk]
    refine go_loop (ι := {i : Nat // i ≤ n.marks.length}) (fun x => ⟨[(1, .ptr (.loc 1) 0), (3, vS (bs (sepBy 44 ((n.marks.map (·.data.toList)).take x.1)))), (4, vI x.1)], [(.loc 1, some (.box 87 n.cells))]⟩)
      (fun x => n.marks.length - x.1) ⟨0, by simp⟩ [] (by simp [N.cells, hk, sepBy, k7]) fun x ih => ?_
    obtain ⟨i, hi⟩ := x
    simp only at hi ih
    have q1 := sepN_len 44 (n.marks.take i)
    have q2 := names1_take n.marks i
    rw [List.map_take] at q1
    by_cases hlt : i < n.marks.length
    · have hw := wr64 ((i : Int) + 1) (by omega)
      obtain ⟨M, hM⟩ : ∃ M, n.marks[i] = bs M := ⟨_, bs_of _⟩
      have htk : (n.marks.map (·.data.toList)).take (i + 1) = (n.marks.map (·.data.toList)).take i ++ [M] := by rw [take_row _ hlt, hM, bs_list]
      have hxl := z3 n.marks[i] (by simp)
      rw [hM, bsl] at hxl
      have hml : 0 < n.marks.length := by omega
      by_cases h0 : 0 < i
      · have hne : ¬ (n.marks.map (·.data.toList)).take i = [] := by
          intro e
          have := congrArg List.length e
          rw [List.length_take, List.length_map, List.length_nil] at this
          omega
        have hfin : sepBy 44 ((n.marks.map (·.data.toList)).take (i + 1)) = sepBy 44 ((n.marks.map (·.data.toList)).take i) ++ 44 :: M := by rw [htk, sepBy_snoc, if_neg hne]
        generalize sepBy 44 ((n.marks.map (·.data.toList)).take i) = P at hfin q1 ⊢
        refine hC.go [] 60 ?_
        simp [hlt, h0, N.cells, k5, bs_app, bsl, hM]
        repeat (refine ⟨by omega, ?_⟩)
        exact go_to [] (ih ⟨i + 1, hlt⟩ (by simp; omega)) (by simp [hw, N.cells, hfin])
      · have e0 : sepBy 44 ((n.marks.map (·.data.toList)).take i) = [] := by rw [show i = 0 by omega]; rfl
        have hfin : sepBy 44 ((n.marks.map (·.data.toList)).take (i + 1)) = M := by rw [htk, sepBy_snoc, if_pos (by rw [show i = 0 by omega]; rfl)]
        rw [e0]
        refine hC.go [] 60 ?_
        simp [hlt, h0, N.cells, bs_app, bsl, hM]
        repeat (refine ⟨by omega, ?_⟩)
        exact go_to [] (ih ⟨i + 1, hlt⟩ (by simp; omega)) (by simp [hw, N.cells, hfin])
    · have htk : (n.marks.map (·.data.toList)).take i = n.marks.map (·.data.toList) := List.take_of_length_le (by simp; omega)
      rw [htk] at q1 ⊢
      by_cases h0 : 0 < n.marks.length
      · have hne : ¬ n.marks = [] := fun e => by rw [e] at h0; simp at h0
        rw [headT, if_neg hne] at hC
        generalize sepBy 44 (n.marks.map (·.data.toList)) = P at hC q1 ⊢
        refine hC.go [] 60 ?_
        simp [hlt, h0, N.cells, k0, k1, bs_app, bsl]
        omega
      · have hne : n.marks = [] := List.eq_nil_of_length_eq_zero (by omega)
        rw [headT, if_pos hne] at hC
        have hi0 : ¬ (i : Int) < 0 := by omega
        refine hC.go [] 60 ?_
        simp [hne, N.cells, sepBy, hi0]
  · have hh : n.head = n.kind.data.toList ++ headA n.attrs := by rw [N.head, if_neg (show ¬ n.kind = textK from hk)]
    rw [hh] at hC
    obtain ⟨K, hK⟩ : ∃ K, n.kind = bs K := ⟨_, bs_of _⟩
    have hKl : K.length = n.kind.size := by rw [hK]; rfl
    have hK2 : n.kind.data.toList = K := by rw [hK]; exact bs_list K
    rw [hK2] at hC
    have hcl : n.cells = [vS (bs K), vS n.text, .pv (strs n.marks), .pv (pairs n.attrs), .pv (nodes n.kids)] := by rw [N.cells, hK]
    refine hC.go [] 60 ?_
    simp [N.av, N.cells, hk]
    refine go_loop (ι := {i : Nat // i ≤ n.attrs.length}) (fun x => ⟨[(1, .ptr (.loc 1) 0), (3, vS (bs (sepBy 32 ((n.attrs.map attrB).take x.1)))), (5, vI x.1)], [(.loc 1, some (.box 87 n.cells))]⟩)
      (fun x => n.attrs.length - x.1) ⟨0, by simp⟩ [] (by simp [N.cells, sepBy, k7]) fun x ih => ?_
    obtain ⟨i, hi⟩ := x
    simp only at hi ih
    rw [hcl] at ih ⊢
    have q1 := sepA_len (n.attrs.take i)
    have q2 := attrs1_take n.attrs i
    rw [List.map_take] at q1
    by_cases hlt : i < n.attrs.length
    · have hw := wr64 ((i : Int) + 1) (by omega)
      obtain ⟨p, hp⟩ : ∃ p, n.attrs[i] = p := ⟨_, rfl⟩
      obtain ⟨A, hA⟩ : ∃ A, p.1 = bs A := ⟨_, bs_of _⟩
      have hzz := z4 n.attrs[i] (by simp)
      rw [hp] at hzz
      have hq := g77 Gl p.2 (by omega)
      obtain ⟨Q, hQ⟩ : ∃ Q, quoteB p.2.data.toList = Q := ⟨_, rfl⟩
      have hQl : Q.length ≤ 2 * p.2.size + 2 := by
        have e : p.2.data.toList.length = p.2.size := Array.length_toList
        have := esc_len p.2.data.toList
        rw [← hQ]
        simp only [quoteB, List.length_append, List.length_cons, List.length_nil]
        omega
      have hAl : A.length = p.1.size := by rw [hA]; rfl
      have hB : attrB p = A ++ 61 :: Q := by rw [attrB, hQ, hA, bs_list]
      rw [hQ] at hq
      have htk : (n.attrs.map attrB).take (i + 1) = (n.attrs.map attrB).take i ++ [A ++ 61 :: Q] := by rw [take_row _ hlt, hp, hB]
      by_cases h0 : 0 < i
      · have hne : ¬ (n.attrs.map attrB).take i = [] := by
          intro e
          have := congrArg List.length e
          rw [List.length_take, List.length_map, List.length_nil] at this
          omega
        have hfin : sepBy 32 ((n.attrs.map attrB).take (i + 1)) = sepBy 32 ((n.attrs.map attrB).take i) ++ 32 :: (A ++ 61 :: Q) := by rw [htk, sepBy_snoc, if_neg hne]
        generalize sepBy 32 ((n.attrs.map attrB).take i) = P at hfin q1 ⊢
        refine hC.go [] 60 ?_
        simp [hlt, h0, k6, bs_app, bsl]
        repeat (refine ⟨by omega, ?_⟩)
        refine hC.drawn (by kernel_rfl) (by simp) ?_
        refine hC.go [] 60 ?_
        simp [hlt, hp, hA, k4, bs_app, bsl]
        repeat (refine ⟨by omega, ?_⟩)
        refine hC.call [] hq (by simp) ?_
        refine hC.go [] 60 ?_
        simp [bs_app, bsl]
        repeat (refine ⟨by omega, ?_⟩)
        exact go_to [] (ih ⟨i + 1, hlt⟩ (by simp; omega)) (by simp [hw, hfin])
      · have e0 : sepBy 32 ((n.attrs.map attrB).take i) = [] := by rw [show i = 0 by omega]; rfl
        have hfin : sepBy 32 ((n.attrs.map attrB).take (i + 1)) = A ++ 61 :: Q := by rw [htk, sepBy_snoc, if_pos (by rw [show i = 0 by omega]; rfl)]
        rw [e0]
        refine hC.go [] 60 ?_
        simp [hlt, h0]
        refine hC.drawn (by kernel_rfl) (by simp) ?_
        refine hC.go [] 60 ?_
        simp [hlt, hp, hA, k4, bs_app, bsl]
        repeat (refine ⟨by omega, ?_⟩)
        refine hC.call [] hq (by simp) ?_
        refine hC.go [] 60 ?_
        simp [bs_app, bsl]
        repeat (refine ⟨by omega, ?_⟩)
        exact go_to [] (ih ⟨i + 1, hlt⟩ (by simp; omega)) (by simp [hw, hfin])
    · have htk : (n.attrs.map attrB).take i = n.attrs.map attrB := List.take_of_length_le (by simp; omega)
      rw [htk] at q1 ⊢
      by_cases h0 : 0 < n.attrs.length
      · have hne : ¬ n.attrs = [] := fun e => by rw [e] at h0; simp at h0
        rw [headA, if_neg hne] at hC
        generalize sepBy 32 (n.attrs.map attrB) = P at hC q1 ⊢
        refine hC.go [] 60 ?_
        simp [hlt, h0, k2, k3, bs_app, bsl]
        omega
      · have hne : n.attrs = [] := List.eq_nil_of_length_eq_zero (by omega)
        rw [headA, if_pos hne] at hC
        have hi0 : ¬ (i : Int) < 0 := by omega
        refine hC.go [] 60 ?_
        simp [hne, sepBy, bs_app, bsl, hi0]
        omega
end Go.Proofs.D
/-
  THE ANSWER TO CHAPTERS 2 AND 15: how nodes, entries and complements are written.
-/
set_option linter.unusedVariables false
set_option linter.unusedSimpArgs false
namespace Go.Proofs.D
open Go Go.Abs Go.RowKit
attribute [local simp] VC VCS stepVS stepTopS firstId memN bigB unmark markT mkOff calmP keepT boundB stepV stepTop stepReg stepOp stMove stPick stBin stUn stConv stBox stAlloc stLoad stStore stFieldAddr stField stExtract stNilCheck stMakeFunc stIndexAddr stIndex stLen
  stBuild placesOf fillA stBuildSlice sliceCells repL chunks allPV toPV drawOk drawOk.go mayMakeO mayMake1 disjoint pairOk Oper.apart Oper.looksAt Op.operands Call.operands Region.binds stAppend appBase appTail unName stSlice bndA
  LS.ev LS.get LS.blk LS.put LS.app LS.upd lkS lkH setS setH Nm.eqb guardOf nexts okPair dstOk AV.cellsOf takeAt putAt lkT sliceE fieldT intK isStrT isBoolT abin newOk LS.freshB LS.freshB.go LS.freshB.goH notIn AV.ments AV.ments.mentsL Blk.ments makes upsMents LS.start startL exitTo T T3 T4 outs callSideR callSideO callSideD upsR backO freshAll argB onlyIO List.map List.append List.nil_append List.cons_append Nat.blt
  conv convS convH srcs srcOf blkOk leA leA.leL Go.Abs.leB leP laid laidM laidG isArg subH retP resAV resL res1 AV.frz AV.frz.frzL evL AV.ren AV.ren.renL Blk.ren renBs blksOf allSome nodupB onlyArgs blksMents callUps keyed inName inName.go backName callSide
theorem wgo_take {l : List N} {i : Nat} (h : i < l.length) : N.w.go (l.take (i + 1)) = N.w.go (l.take i) ++ l[i].w := by
  rw [take_snoc h, wgo_append]
  simp [N.w.go]
set_option maxRecDepth 20000 in
theorem g78k (Gl : Granted) (l : List N) (hw : N.wt.go l ≤ 100000) (hrec : ∀ x ∈ l, Fun Tryz.prog Gl 123 [x.av] [] (vS (bs x.w)) []) : Fun Tryz.prog Gl 78 [.pv (nodes l)] [] (vS (bs (N.w.go l))) [] := by
  have hle := go_len_wt l
  have k0 : (⟨#[]⟩ : ByteArray) = bs [] := rfl
  refine fun_of (T := T4) (n := 19) (rs := [.tmp 2]) Tryz.func78 (by kernel_rfl) rfl rfl rfl tok4 mixed (by simp) fun C hC => ?_
  refine hC.go [] 60 ?_
  simp
  refine go_loop (ι := {i : Nat // i ≤ l.length}) (fun x => ⟨[(0, .pv (nodes l)), (3, vS (bs (N.w.go (l.take x.1)))), (4, vI x.1)], []⟩) (fun x => l.length - x.1) ⟨0, by simp⟩ [] (by simp [N.w.go, k0]) fun x ih => ?_
  obtain ⟨i, hi⟩ := x
  simp only at hi ih
  by_cases hlt : i < l.length
  · have hw1 := wr64 ((i : Int) + 1) (by omega)
    have hx := wgo_take hlt
    have q1 := go_len4 (l.take i)
    have q2 := take_wt l i
    have q3 := w_len l[i]
    have q4 := wt_kid (l := l) (x := l[i]) (by simp)
    refine hC.go [] 60 ?_
    simp [hlt, N.pv_eq]
    refine hC.call [] (hrec l[i] (by simp)) (by simp [N.av, N.cells]) ?_
    refine hC.go [] 60 ?_
    simp [bs_app, bsl]
    repeat (refine ⟨by omega, ?_⟩)
    exact go_to [] (ih ⟨i + 1, hlt⟩ (by simp; omega)) (by simp [hw1, hx])
  · have htk : l.take i = l := List.take_of_length_le (by omega)
    rw [htk]
    refine hC.go [] 60 ?_
    simp [hlt]
set_option maxRecDepth 20000 in
theorem g123 (Gl : Granted) (n : N) (hw : n.wt ≤ 100000) : Fun Tryz.prog Gl 123 [n.av] [] (vS (bs n.w)) [] := by
  obtain ⟨z1, z2, z3, z4, z5, z6, z7, z8⟩ := N.lim hw
  have hrec : ∀ x ∈ n.kids, Fun Tryz.prog Gl 123 [x.av] [] (vS (bs x.w)) [] := fun x hx => g123 Gl x (z5 x hx)
  have hww := N.w_head n
  have hhl := head_len n
  have hwl := w_len n
  have hgo : N.wt.go n.kids ≤ 100000 := by rw [N.wt_eq] at hw; omega
  refine fun_of (T := T4) (n := 20) (rs := [.tmp 2]) Tryz.func123 (by kernel_rfl) rfl rfl rfl tok4 mixed (by simp) fun C hC => ?_
  by_cases hk : n.kind = ⟨#[116, 101, 120, 116]⟩
  · rw [if_pos (show n.kind = textK from hk)] at hww
    rw [hww, List.length_append] at hwl
    rw [hww] at hC
    refine hC.go [] 60 ?_
    simp [N.av, N.cells, hk]
    refine hC.drawn (by kernel_rfl) (by simp) ?_
    refine hC.go [] 60 ?_
    simp
    refine hC.call [] (g77 Gl n.text (by omega)) (by simp) ?_
    refine hC.go [] 60 ?_
    simp
    refine hC.call [] (g151 Gl n hw) (by simp [N.av, N.cells, hk]) ?_
    refine hC.go [] 60 ?_
    simp [bs_app, bsl]
    omega
  · rw [if_neg (show ¬ n.kind = textK from hk)] at hww
    rw [hww] at hC
    rw [hww] at hwl
    simp only [List.length_append, List.length_cons, List.length_nil] at hwl
    have k1 : (⟨#[91]⟩ : ByteArray) = bs [91] := rfl
    have k2 : (⟨#[93]⟩ : ByteArray) = bs [93] := rfl
    refine hC.go [] 60 ?_
    simp [N.av, N.cells, hk]
    refine hC.drawn (by kernel_rfl) (by simp) ?_
    refine hC.go [] 60 ?_
    simp
    refine hC.call [] (g151 Gl n hw) (by simp [N.av, N.cells, hk]) ?_
    refine hC.go [] 60 ?_
    simp [bs_app, bsl, k1]
    repeat (refine ⟨by omega, ?_⟩)
    refine hC.call [] (g78k Gl n.kids hgo hrec) (by simp) ?_
    refine hC.go [] 60 ?_
    simp [bs_app, bsl, k2]
    repeat (refine ⟨by omega, ?_⟩)
    omega
termination_by SizeOf.sizeOf n
decreasing_by exact N.kids_lt hx
theorem g78 (Gl : Granted) (l : List N) (hw : N.wt.go l ≤ 100000) : Fun Tryz.prog Gl 78 [.pv (nodes l)] [] (vS (bs (N.w.go l))) [] := g78k Gl l hw fun x hx => g123 Gl x (by have := wt_kid hx; omega)
theorem g40 (Gl : Granted) (e : Ent) (hw : e.wt ≤ 90000) (hok : e.ok = true) : Fun Tryz.prog Gl 40 [e.av] [] (vS (bs e.w)) [] := by
  have hv : e.value.size ≤ 90000 := by unfold Ent.wt at hw; omega
  have hg : N.wt.go e.rest ≤ 90000 := by unfold Ent.wt at hw; omega
  have hql := quote_len e.value.data.toList
  rw [bsz] at hql
  have hgl := go_len4 e.rest
  have k0 : (⟨#[61]⟩ : ByteArray) = bs [61] := rfl
  have k1 : (⟨#[91]⟩ : ByteArray) = bs [91] := rfl
  have k2 : (⟨#[93]⟩ : ByteArray) = bs [93] := rfl
  have k3 : (⟨#[45]⟩ : ByteArray) = bs [45] := rfl
  refine fun_of (T := T4) (n := 23) (rs := [.tmp 2]) Tryz.func40 (by kernel_rfl) rfl rfl rfl tok4 mixed (by simp) fun C hC => ?_
  cases hh : e.has with
  | false =>
    have h1 : e.w = [45] := by simp [Ent.w, hh]
    rw [h1] at hC
    refine hC.go [] 60 ?_
    simp [Ent.av, Ent.cells, hh, k3]
  | true =>
    simp only [Ent.ok, hh, if_true, Bool.and_eq_true, decide_eq_true_eq] at hok
    have hf := go_nil (x_form (check_form hok.2))
    refine hC.go [] 60 ?_
    simp [Ent.av, Ent.cells, hh]
    refine hC.call [] (g77 Gl e.value (by omega)) (by simp) ?_
    by_cases h0 : e.rest = []
    · have h1 : e.w = 61 :: quoteB e.value.data.toList := by rw [Ent.w, if_pos hh, if_pos (hf.2 h0)]; simp
      rw [h1] at hC
      refine hC.go [] 60 ?_
      simp [Ent.cells, h0, k0, bs_app, bsl]
      omega
    · have h1 : e.w = 61 :: (quoteB e.value.data.toList ++ 91 :: (N.w.go e.rest ++ [93])) := by rw [Ent.w, if_pos hh, if_neg (fun h => h0 (hf.1 h))]
      have hl : 0 < e.rest.length := List.length_pos_iff.2 h0
      rw [h1] at hC
      refine hC.go [] 60 ?_
      simp [Ent.cells, hl, k0, k1, bs_app, bsl]
      repeat (refine ⟨by omega, ?_⟩)
      refine hC.call [] (g78 Gl e.rest (by omega)) (by simp) ?_
      refine hC.go [] 60 ?_
      simp [k2, bs_app, bsl]
      omega
end Go.Proofs.D
/-
  THE ANSWER TO CHAPTER 15: how a complement is written.
-/
set_option linter.unusedVariables false
set_option linter.unusedSimpArgs false
namespace Go.Proofs.D
open Go Go.Abs Go.RowKit
attribute [local simp] VC VCS stepVS stepTopS firstId memN bigB unmark markT mkOff calmP keepT boundB stepV stepTop stepReg stepOp stMove stPick stBin stUn stConv stBox stAlloc stLoad stStore stFieldAddr stField stExtract stNilCheck stMakeFunc stIndexAddr stIndex stLen
  stBuild placesOf fillA stBuildSlice sliceCells repL chunks allPV toPV drawOk drawOk.go mayMakeO mayMake1 disjoint pairOk Oper.apart Oper.looksAt Op.operands Call.operands Region.binds stAppend appBase appTail unName stSlice bndA
  LS.ev LS.get LS.blk LS.put LS.app LS.upd lkS lkH setS setH Nm.eqb guardOf nexts okPair dstOk AV.cellsOf takeAt putAt lkT sliceE fieldT intK isStrT isBoolT abin newOk LS.freshB LS.freshB.go LS.freshB.goH notIn AV.ments AV.ments.mentsL Blk.ments makes upsMents LS.start startL exitTo T T3 T4 outs callSideR callSideO callSideD upsR backO freshAll argB onlyIO List.map List.append List.nil_append List.cons_append Nat.blt
  conv convS convH srcs srcOf blkOk leA leA.leL Go.Abs.leB leP laid laidM laidG isArg subH retP resAV resL res1 AV.frz AV.frz.frzL evL AV.ren AV.ren.renL Blk.ren renBs blksOf allSome nodupB onlyArgs blksMents callUps keyed inName inName.go backName callSide
theorem value_nil : value ⟨#[]⟩ = true := by
  have h : utfOk ⟨#[]⟩ = true := by
    unfold utfOk
    exact Lib.validD_nil
  simp only [value, h, Bool.and_true, decide_eq_true_eq]
  decide
theorem check_nil : (xOf []).check = 0 := by
  have hk : ¬ (xOf []).kind = textK := by decide
  have h1 : (xOf []).form = true := by
    rw [N.form_eq, if_neg hk]
    have : isName (⟨#[120]⟩ : ByteArray) = true := by decide +kernel
    simp [xOf, N.attrs, N.kind, N.text, N.marks, N.kids, N.form.go, rise, riseFrom, this]
  have h2 : (xOf []).deep = 1 := by
    rw [N.deep_eq, if_neg hk]
    exact wr64 1 (by omega)
  have h3 : (xOf []).size = 2 := by
    rw [N.size_eq, if_neg hk]
    exact wr64 2 (by omega)
  simp [N.check, h1, h2, h3]
theorem comp_take_len (c : Cm) (i : Nat) (h : i < c.length) : (compB (c.take i)).length + (lineB c[i]).length ≤ 6 * compWt c := by
  have hll := line_len c[i]
  have hcw := comp_len (c.take i)
  have hcw2 : compWt (c.take i) + slotWt c[i] ≤ compWt c := by
    have h1 := compWt_append (c.take (i + 1)) (c.drop (i + 1))
    rw [List.take_append_drop, List.take_add_one, List.getElem?_eq_getElem h, compWt_append] at h1
    simp only [Option.toList_some] at h1
    have : compWt [c[i]] = slotWt c[i] := by simp [compWt]
    omega
  omega
theorem sepTail_append (s : UInt8) (a b : List Bs) : sepTail s (a ++ b) = sepTail s a ++ sepTail s b := by simp [sepTail]
theorem sepBy_take (s : UInt8) (l : List Bs) (i : Nat) : (sepBy s (l.take i)).length ≤ (sepBy s l).length := by
  cases i with
  | zero => simp [sepBy]
  | succ i =>
    cases l with
    | nil => simp
    | cons x r =>
      have : sepTail s r = sepTail s (r.take i) ++ sepTail s (r.drop i) := by rw [← sepTail_append, List.take_append_drop]
      simp only [List.take_succ_cons, sepBy, List.length_append, this]
      omega
set_option maxRecDepth 20000 in
set_option maxHeartbeats 4000000 in
theorem g10 (Gl : Granted) (c : Cm) (hw : compWt c ≤ 90000) : Fun Tryz.prog Gl 10 [.pv (comp c)] [] (.tup [vS (printC c), vI (printE c)]) [] := by
  have hcl := comp_lens c
  have k0 : (⟨#[]⟩ : ByteArray) = bs [] := rfl
  have k1 : (⟨#[32]⟩ : ByteArray) = bs [32] := rfl
  have k2 : (⟨#[10]⟩ : ByteArray) = bs [10] := rfl
  refine fun_of (T := T4) (n := 68) (rs := [.tmp 2, .tmp 3]) Tryz.func10 (by kernel_rfl) rfl rfl rfl tok4 mixed (by simp) fun C hC => ?_
  refine hC.go [] 60 ?_
  simp
  refine go_loop (ι := {i : Nat // i ≤ c.length ∧ okC c = okC (c.drop i)}) (fun x => ⟨[(0, .pv (comp c)), (4, vS (bs (compB (c.take x.1)))), (5, vI x.1)], []⟩)
    (fun x => c.length - x.1) ⟨0, by simp⟩ [] (by simp [compB, k0]) fun x ih => ?_
  obtain ⟨i, hi, hn⟩ := x
  simp only at hi hn ih
  by_cases hlt : i < c.length
  · have hw1 := wr64 ((i : Int) + 1) (by omega)
    have hctl := comp_take_len c i hlt
    have hct := compB_take hlt
    obtain ⟨l, hl⟩ : ∃ l, c[i] = l := ⟨_, rfl⟩
    have hsm := slot_mem (c := c) (l := l) (by rw [← hl]; simp)
    have hsl := slot_lens l
    rw [List.drop_eq_getElem_cons hlt, hl] at hn
    rw [hl] at hctl hct
    generalize compB (c.take i) = P at hctl hct
    refine hC.go [] 60 ?_
    simp [hlt]
    refine go_loop (ι := {j : Nat // j ≤ l.length ∧ l.all Ent.ok = (l.drop j).all Ent.ok}) (fun x => ⟨[(0, .pv (comp c)), (4, vS (bs (P ++ sepBy 32 ((l.map Ent.w).take x.1)))), (5, vI i), (6, vI x.1)], []⟩)
      (fun x => l.length - x.1) ⟨0, by simp⟩ [] (by simp [sepBy]) fun x ih2 => ?_
    obtain ⟨j, hj, hn2⟩ := x
    simp only at hj hn2 ih2
    have hst := sepBy_take 32 (l.map Ent.w) j
    have hst2 := sepBy_take 32 (l.map Ent.w) (j + 1)
    have hlb : (lineB l).length = (sepBy 32 (l.map Ent.w)).length + 1 := by simp [lineB]
    by_cases hlj : j < l.length
    · have hw2 := wr64 ((j : Int) + 1) (by omega)
      obtain ⟨e, he⟩ : ∃ e, l[j] = e := ⟨_, rfl⟩
      have hem := ent_mem (l := l) (e := e) (by rw [← he]; simp)
      have hv : e.value.size ≤ 90000 := by unfold Ent.wt at hem; omega
      have hg : N.wt.go e.rest ≤ 90000 := by unfold Ent.wt at hem; omega
      have hx : (xOf e.rest).wt ≤ 100000 := by rw [x_wt]; omega
      rw [List.drop_eq_getElem_cons hlj, List.all_cons, he] at hn2
      have hbad : e.ok = false → printC c = ⟨#[]⟩ ∧ printE c = 2 := fun h => by
        have : okC c = false := by
          rw [hn]
          simp only [okC, List.all_cons, hn2, h, Bool.false_and]
        simp [printC, printE, this]
      have htk := take_row Ent.w hlj
      rw [he] at htk
      have hck := fun_nils (g39 Gl (xOf e.rest) hx)
      have hcases : (e.has = false ∧ ¬ e.value = ⟨#[]⟩) ∨ (e.has = false ∧ e.value = ⟨#[]⟩ ∧ 0 < e.rest.length) ∨ (e.has = false ∧ e.value = ⟨#[]⟩ ∧ ¬ 0 < e.rest.length ∧ value e.value = true ∧ (xOf e.rest).check = 0) ∨ (e.has = true ∧ True ∧ True ∧ True ∧ True) := by
        cases hh : e.has with
        | true => simp
        | false =>
          by_cases h1 : e.value = ⟨#[]⟩
          · by_cases h2 : 0 < e.rest.length
            · simp [h1, h2]
            · have : e.rest = [] := List.eq_nil_of_length_eq_zero (by omega)
              simp [h1, this, value_nil, check_nil]
          · simp [h1]
      rcases hcases with ⟨hh, h1⟩ | ⟨hh, h1, h2⟩ | hrest
      · obtain ⟨p1, p2⟩ := hbad (by simp [Ent.ok, hh, Ent.none, h1])
        refine hC.go [] 100 ?_
        simp [hlt, hl, hlj, he, Ent.pv_eq', hh, h1, p1, p2]
      · obtain ⟨p1, p2⟩ := hbad (by simp [Ent.ok, hh, Ent.none, h1]; intro h; rw [h] at h2; simp at h2)
        refine hC.go [] 100 ?_
        simp [hlt, hl, hlj, he, Ent.pv_eq', hh, h1, h2, p1, p2]
      · have hokv : e.ok = (value e.value && decide ((xOf e.rest).check = 0)) := by
          rcases hrest with ⟨hh, h1, h2, h3, h4⟩ | ⟨hh, _⟩
          · have : e.rest.length = 0 := by omega
            simp [Ent.ok, hh, Ent.none, h1, this, h3, h4]
            rw [h1] at h3
            exact h3
          · simp [Ent.ok, hh]
        rcases hrest with ⟨hh, h1, h2, h3, h4⟩ | ⟨hh, h1, h2, h3, h4⟩
        all_goals
          have h1p := eq_true h1
          clear h1
          refine hC.go [] 60 ?_
          simp [hlt, hl, hlj, he, Ent.pv_eq', hh, h1p, h2]
          refine hC.call [] (g38 Gl e.value (by omega)) (by simp) ?_
          cases hvv : value e.value with
          | false =>
            obtain ⟨p1, p2⟩ := hbad (by rw [hokv, hvv]; rfl)
            refine hC.go [] 60 ?_
            simp [p1, p2]
          | true =>
            rw [hvv, Bool.true_and] at hokv
            refine hC.go [] 60 ?_
            simp
            refine hC.call [] hck (by simp [xOf, N.kind, N.text, N.kids]) ?_
            by_cases hc0 : (xOf e.rest).check = 0
            · have hok : e.ok = true := by rw [hokv]; simp [hc0]
              have hwr := g40 Gl e (by omega) hok
              have hel := entw_len e
              rw [hok, Bool.true_and] at hn2
              by_cases h0 : 0 < j
              · have hne : ¬ (l.map Ent.w).take j = [] := by
                  intro e
                  have := congrArg List.length e
                  rw [List.length_take, List.length_map, List.length_nil] at this
                  omega
                have hfin : sepBy 32 ((l.map Ent.w).take (j + 1)) = sepBy 32 ((l.map Ent.w).take j) ++ 32 :: e.w := by rw [htk, sepBy_snoc, if_neg hne]
                generalize sepBy 32 ((l.map Ent.w).take j) = Q at hfin hst ⊢
                refine hC.go [] 60 ?_
                simp [hc0, h0, k1, bs_app, bsl]
                repeat (refine ⟨by omega, ?_⟩)
                refine hC.call [] hwr (by simp [Ent.av, Ent.cells, hh]) ?_
                refine hC.go [] 60 ?_
                simp [bs_app, bsl]
                repeat (refine ⟨by omega, ?_⟩)
                exact go_to [] (ih2 ⟨j + 1, hlj, hn2⟩ (by simp; omega)) (by simp [hw2, hfin])
              · have e0 : sepBy 32 ((l.map Ent.w).take j) = [] := by rw [show j = 0 by omega]; rfl
                have hfin : sepBy 32 ((l.map Ent.w).take (j + 1)) = e.w := by rw [htk, sepBy_snoc, if_pos (by rw [show j = 0 by omega]; rfl)]
                rw [e0]
                refine hC.go [] 60 ?_
                simp [hc0, h0]
                refine hC.call [] hwr (by simp [Ent.av, Ent.cells, hh]) ?_
                refine hC.go [] 60 ?_
                simp [bs_app, bsl]
                repeat (refine ⟨by omega, ?_⟩)
                exact go_to [] (ih2 ⟨j + 1, hlj, hn2⟩ (by simp; omega)) (by simp [hw2, hfin])
            · obtain ⟨p1, p2⟩ := hbad (by rw [hokv]; simp [hc0])
              refine hC.go [] 60 ?_
              simp [hc0, p1, p2]
    · rw [List.drop_eq_nil_of_le (by omega), List.all_nil] at hn2
      have htk : (l.map Ent.w).take j = l.map Ent.w := List.take_of_length_le (by simp; omega)
      have hfin : P ++ sepBy 32 (l.map Ent.w) ++ [10] = P ++ lineB l := by simp [lineB]
      have hn' : okC c = okC (c.drop (i + 1)) := by rw [hn]; simp only [okC, List.all_cons, hn2, Bool.true_and]
      rw [htk]
      refine hC.go [] 100 ?_
      simp [hlt, hl, hlj, k2, bs_app, bsl]
      repeat (refine ⟨by omega, ?_⟩)
      exact go_to [] (ih ⟨i + 1, hlt, hn'⟩ (by simp; omega)) (by simp [hw1, hct, lineB])
  · have htk : c.take i = c := List.take_of_length_le (by omega)
    rw [List.drop_eq_nil_of_le (by omega)] at hn
    have hk : okC c = true := by rw [hn]; rfl
    have h1 : printC c = bs (compB c) := by rw [printC, if_pos hk]
    have h2 : printE c = 0 := by rw [printE, if_pos hk]
    rw [h1, h2] at hC
    rw [htk]
    refine hC.go [] 100 ?_
    simp [hlt]
end Go.Proofs.D
