/-
  NODES: is one well formed?
-/
import Derived.Test.YtonomogpephfkaaDoorK2
set_option linter.unusedVariables false
set_option linter.unusedSimpArgs false
set_option linter.unusedSimpArgs false
namespace Go.Proofs.D
open Go Go.Abs Go.RowKit
attribute [local simp] VC stepV stepTop stepReg stepOp stMove stPick stBin stUn stConv stBox stAlloc stLoad stStore stFieldAddr stField stExtract stNilCheck stMakeFunc stIndexAddr stIndex stLen
  stBuild placesOf fillA stBuildSlice sliceCells repL chunks allPV toPV drawOk drawOk.go mayMakeO mayMake1 disjoint pairOk Oper.apart Oper.looksAt Op.operands Call.operands Region.binds stAppend appBase appTail unName stSlice bndA
  LS.ev LS.get LS.blk LS.put LS.app LS.upd lkS lkH setS setH Nm.eqb guardOf nexts okPair dstOk AV.cellsOf takeAt putAt lkT sliceE fieldT intK isStrT isBoolT abin newOk LS.freshB LS.freshB.go LS.freshB.goH notIn AV.ments AV.ments.mentsL Blk.ments makes upsMents LS.start startL exitTo T T3 outs callSideO callSideD upsR backO freshAll argB onlyIO List.map List.append List.nil_append List.cons_append Nat.blt
  conv convS convH srcs srcOf blkOk leA leA.leL leB leP laid laidM isArg subH retP resAV resL res1 AV.frz AV.frz.frzL evL AV.ren AV.ren.renL Blk.ren renBs blksOf allSome nodupB onlyArgs blksMents callUps keyed inName inName.go backName callSide
theorem N.lim {n : N} (h : n.wt ≤ 100000) : n.kind.size ≤ 100000 ∧ n.text.size ≤ 100000 ∧ (∀ s ∈ n.marks, s.size ≤ 100000) ∧ (∀ p ∈ n.attrs, p.1.size ≤ 100000 ∧ p.2.size ≤ 100000) ∧ (∀ x ∈ n.kids, x.wt ≤ 100000) ∧ n.marks.length ≤ 100000 ∧ n.attrs.length ≤ 100000 ∧ n.kids.length ≤ 100000 := by
  rw [N.wt_eq] at h
  have h1 := names1_len n.marks
  have h2 := attrs1_len n.attrs
  have h3 := go_len_wt n.kids
  refine ⟨by omega, by omega, fun s hs => ?_, fun p hp => ?_, fun x hx => ?_, by omega, by omega, by omega⟩
  · have := mem_names1 hs; omega
  · have := mem_attrs1 hp; exact ⟨by omega, by omega⟩
  · have := wt_kid hx; omega
set_option maxRecDepth 20000 in
set_option maxHeartbeats 2000000 in
theorem f131 (n : N) (hw : n.wt ≤ 100000) : Fun Tryd.prog tabs 131 [n.av] [] (vB n.form) [] := by
  obtain ⟨z1, z2, z3, z4, z5, z6, z7, z8⟩ := N.lim hw
  have hrec : ∀ x ∈ n.kids, Fun Tryd.prog tabs 131 [x.av] [] (vB x.form) [] := fun x hx => f131 x (z5 x hx)
  refine fun_of (T := T3) (n := 96) (rs := [.tmp 2]) Tryd.func131 (by kernel_rfl) rfl rfl rfl tok3 mixed (by simp) fun C hC => ?_
  have hform := N.form_eq n
  refine hC.vc [] 60 ?_
  simp [N.av, N.cells]
  refine hC.call [] (f152 tabs n) (by simp [N.av, N.cells]) ?_
  cases hk : n.isText with
  | true =>
    have hkind : n.kind = textK := by simpa [N.isText] using hk
    rw [if_pos hkind] at hform
    by_cases ht : n.text = ⟨#[]⟩
    · refine hC.vc [] 60 ?_
      simp [ht, hform]
    · simp only [ht, decide_false, Bool.not_false, Bool.true_and] at hform
      refine hC.vc [] 60 ?_
      simp [N.cells, ht]
      refine hC.call [] (f90 n.text (by omega)) (by simp) ?_
      refine hC.vc [] 60 ?_
      cases hu : utfOk n.text with
      | false => simp [hform, hu]
      | true =>
        rw [hu, Bool.true_and] at hform
        simp [N.cells]
        refine hC.call [] (f153 tabs n.marks fun s hs => Nat.le_trans (z3 s hs) (by decide)) (by simp) ?_
        refine hC.vc [] 60 ?_
        cases hr : rise n.marks with
        | false => simp [hform, hr]
        | true =>
          rw [hr, Bool.true_and] at hform
          have hw0 := wr64 0 (by omega)
          have hsum := wr64 ((n.attrs.length : Int) + n.kids.length) (by omega)
          by_cases h0 : (n.attrs.length : Int) + n.kids.length = 0
          · have h1 : n.attrs = [] := List.eq_nil_of_length_eq_zero (by omega)
            have h2 : n.kids.length = 0 := by omega
            have : n.form = true := by rw [hform]; simp [h1, h2]
            simp [N.cells, hsum, h0, hw0, this]
          · have : n.form = false := by
              rw [hform]
              by_cases h1 : n.attrs = []
              · have h2 : ¬ n.kids.length = 0 := by rw [h1] at h0; simpa using h0
                simp [h2]
              · simp [h1]
            simp [N.cells, hsum, h0, hw0, this]
  | false =>
    have hkind : ¬ n.kind = textK := by simpa [N.isText] using hk
    rw [if_neg hkind] at hform
    refine hC.vc [] 60 ?_
    simp [N.cells]
    refine go_loop (ι := {i : Nat // i ≤ n.attrs.length ∧ n.attrs.all (fun p => value p.2) = (n.attrs.drop i).all (fun p => value p.2)}) (fun x => ⟨[(1, .ptr (.loc 1) 0), (34, .pv (pairs n.attrs)), (35, vI n.attrs.length), (36, vI x.1), (3, .own (.can 0))],
        [(.loc 1, some (.box 79 n.cells)), (.can 0, some (.row 9 1 ((n.attrs.map fun p => [PV.val (.string p.1)]).take x.1)))]⟩)
      (fun x => n.attrs.length - x.1) ⟨0, by simp⟩ [(.can 0, .nil)] (by simp [N.cells]) fun x ih => ?_
    obtain ⟨i, hi, hn⟩ := x
    simp only at hi hn ih
    refine hC.vc [] 60 ?_
    by_cases hlt : i < n.attrs.length
    · have hw1 := wr64 ((i : Int) + 1) (by omega)
      rw [List.drop_eq_getElem_cons hlt, List.all_cons] at hn
      simp [hlt, N.cells]
      refine hC.call [] (f67 n.attrs[i].2 (by have := (z4 n.attrs[i] (by simp)).2; omega)) (by simp) ?_
      cases hv : value n.attrs[i].2 with
      | false =>
        rw [hv, Bool.false_and] at hn
        have : n.form = false := by rw [hform, hn]; rfl
        refine hC.vc [] 60 ?_
        simp [this]
      | true =>
        rw [hv, Bool.true_and] at hn
        refine hC.vc [] 60 ?_
        simp
        refine ⟨by omega, ?_⟩
        have htk : (n.attrs.map fun p => [PV.val (.string p.1)]).take (i + 1) = (n.attrs.map fun p => [PV.val (.string p.1)]).take i ++ [[.val (.string n.attrs[i].1)]] := by
          rw [List.take_add_one, List.getElem?_map, List.getElem?_eq_getElem hlt]; rfl
        exact go_to [(.can 0, .nm (.loc 48))] (ih ⟨i + 1, hlt, hn⟩ (by simp; omega)) (by simp [hw1, N.cells, htk])
    · rw [List.drop_eq_nil_of_le (by omega), List.all_nil] at hn
      rw [hn, Bool.true_and] at hform
      have hnm : (n.attrs.map fun p => [PV.val (.string p.1)]).take i = (n.attrs.map (·.1)).map fun s => [PV.val (.string s)] := by
        rw [List.take_of_length_le (by simp; omega), List.map_map]; rfl
      rw [hnm]
      simp [hlt, N.cells]
      refine hC.call [] (f58 tabs n.kind (by omega)) (by simp) ?_
      cases hnk : isName n.kind with
      | false =>
        have : n.form = false := by rw [hform, hnk]; rfl
        refine hC.vc [] 60 ?_
        simp [this]
      | true =>
        rw [hnk, Bool.true_and] at hform
        by_cases ht : n.text = ⟨#[]⟩
        · by_cases hm : n.marks = []
          · simp only [ht, hm, decide_true, Bool.true_and] at hform
            refine hC.vc [] 60 ?_
            simp [N.cells, ht, hm]
            refine hC.call [.can 0] (fun_ownRow (a := []) (b := []) (e := 9) (by simp) rfl (f153 tabs (n.attrs.map (·.1)) fun s hs => by
              obtain ⟨p, hp, rfl⟩ := List.mem_map.1 hs
              exact Nat.le_trans (z4 p hp).1 (by decide))) (by simp) ?_
            cases hr : rise (n.attrs.map (·.1)) with
            | false =>
              have : n.form = false := by rw [hform, hr]; rfl
              refine hC.vc [] 60 ?_
              simp [this]
            | true =>
              rw [hr, Bool.true_and] at hform
              refine hC.vc [] 60 ?_
              simp [N.cells]
              refine go_loop (ι := {i : Nat // i ≤ n.kids.length ∧ N.form.go none n.kids = N.form.go (prevAt n.kids i) (n.kids.drop i)}) (fun x => ⟨[(1, .ptr (.loc 1) 0), (71, .pv (nodes n.kids)), (72, vI n.kids.length), (73, vI x.1)], [(.loc 1, some (.box 79 n.cells))]⟩)
                (fun x => n.kids.length - x.1) ⟨0, by simp [prevAt]⟩ [] (by simp [N.cells, ht, hm]) fun x ih2 => ?_
              obtain ⟨j, hj, hn2⟩ := x
              simp only at hj hn2 ih2
              refine hC.vc [] 60 ?_
              by_cases hlj : j < n.kids.length
              · have hw1 := wr64 ((j : Int) + 1) (by omega)
                rw [List.drop_eq_getElem_cons hlj] at hn2
                simp only [N.form.go] at hn2
                simp [hlj, N.pv_eq, N.cells]
                refine hC.call [] (hrec n.kids[j] (by simp)) (by simp [N.av, N.cells]) ?_
                cases hf : n.kids[j].form with
                | false =>
                  rw [hf, Bool.false_and, Bool.false_and] at hn2
                  have : n.form = false := by rw [hform, hn2]
                  refine hC.vc [] 60 ?_
                  simp [this]
                | true =>
                  rw [hf, Bool.true_and] at hn2
                  refine hC.vc [] 60 ?_
                  by_cases h0 : 0 < j
                  · have hw2 := wr64 ((j : Int) - 1) (by omega)
                    have hj1 : j - 1 < n.kids.length := by omega
                    have e1 : ((j : Int) - 1) = ((j - 1 : Nat) : Int) := by omega
                    have hp : prevAt n.kids j = some n.kids[j - 1] := by
                      unfold prevAt
                      rw [if_neg (by omega), List.getElem?_eq_getElem hj1]
                    rw [hp] at hn2
                    simp only at hn2
                    rw [e1] at hw2
                    simp [h0, hw2, e1, hj1, N.cells, N.pv_eq]
                    refine hC.call [] (f154 tabs n.kids[j - 1] n.kids[j]) (by simp [N.av, N.cells]) ?_
                    cases ha : alike n.kids[j - 1] n.kids[j] with
                    | true =>
                      rw [ha] at hn2
                      have : n.form = false := by rw [hform, hn2]; rfl
                      refine hC.vc [] 60 ?_
                      simp [this]
                    | false =>
                      rw [ha] at hn2
                      refine hC.vc [] 60 ?_
                      simp
                      exact go_to [] (ih2 ⟨j + 1, hlj, by rw [prevAt_succ hlj, hn2]; simp⟩ (by simp; omega)) (by simp [hw1, N.cells])
                  · have hj0 : j = 0 := by omega
                    subst hj0
                    simp only [prevAt, if_true, Bool.true_and] at hn2
                    simp
                    exact go_to [] (ih2 ⟨1, hlj, by rw [hn2]; simp [prevAt, List.getElem?_eq_getElem hlj]⟩ (by simp; omega)) (by simp [wr64 1 (by omega), N.cells])
              · rw [List.drop_eq_nil_of_le (by omega)] at hn2
                simp only [N.form.go] at hn2
                have : n.form = true := by rw [hform, hn2]
                simp [hlj, this]
          · have : n.form = false := by rw [hform]; simp [hm]
            have hml : 0 < n.marks.length := List.length_pos_iff.2 hm
            refine hC.vc [] 60 ?_
            simp [N.cells, ht, hml, this]
        · have : n.form = false := by rw [hform]; simp [ht]
          refine hC.vc [] 60 ?_
          simp [N.cells, ht, this]
termination_by SizeOf.sizeOf n
decreasing_by exact N.kids_lt hx
end Go.Proofs.D
