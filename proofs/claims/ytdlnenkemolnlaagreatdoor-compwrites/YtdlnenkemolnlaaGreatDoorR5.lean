/-
  THE ANSWER TO CHAPTER 1: texts, values, names that rise, names that are the same.
-/
import Derived.Test.YtdlnenkemolnlaaGreatDoorS2
import Derived.Test.YtdlnenkemolnlaaGreatDoorP4
import Derived.Test.YtdlnenkemolnlaaGreatDoorD32
import Derived.Test.YtdlnenkemolnlaaGreatDoorK10
import Derived.Test.YtdlnenkemolnlaaGreatDoorT1
set_option linter.unusedVariables false
set_option linter.unusedSimpArgs false
namespace Go.Proofs.D
open Go Go.Abs Go.RowKit
attribute [local simp] VC VCS stepVS stepTopS firstId memN bigB unmark markT mkOff calmP keepT boundB stepV stepTop stepReg stepOp stMove stPick stBin stUn stConv stBox stAlloc stLoad stStore stFieldAddr stField stExtract stNilCheck stMakeFunc stIndexAddr stIndex stLen
  stBuild placesOf fillA stBuildSlice sliceCells repL chunks allPV toPV drawOk drawOk.go mayMakeO mayMake1 disjoint pairOk Oper.apart Oper.looksAt Op.operands Call.operands Region.binds stAppend appBase appTail unName stSlice bndA
  LS.ev LS.get LS.blk LS.put LS.app LS.upd lkS lkH setS setH Nm.eqb guardOf nexts okPair dstOk AV.cellsOf takeAt putAt lkT sliceE fieldT intK isStrT isBoolT abin newOk LS.freshB LS.freshB.go LS.freshB.goH notIn AV.ments AV.ments.mentsL Blk.ments makes upsMents LS.start startL exitTo T T3 T4 outs callSideR callSideO callSideD upsR backO freshAll argB onlyIO List.map List.append List.nil_append List.cons_append Nat.blt
  conv convS convH srcs srcOf blkOk leA leA.leL Go.Abs.leB leP laid laidM isArg subH retP resAV resL res1 AV.frz AV.frz.frzL evL AV.ren AV.ren.renL Blk.ren renBs blksOf allSome nodupB onlyArgs blksMents callUps keyed inName inName.go backName callSide
theorem g119 (Gl : Granted) (s : ByteArray) (hs : s.size ≤ 70368744177664) : Fun Tryz.prog Gl 119 [vS s] [] (.tup [.pv (.ro 1 (runeRow (runesI s))), vB (utfOk s)]) [] := by
  refine fun_of (T := T4) (n := 12) (rs := [.tmp 2, .tmp 3]) Tryz.func119 (by kernel_rfl) rfl rfl rfl tok4 mixed (by simp) fun C hC => ?_
  have h := runes_ok s
  refine hC.vc [] 60 ?_
  simp
  refine hC.runes rfl ⟨rfl, rfl, rfl⟩ (by simp) hs ?_
  refine hC.vc [] 60 ?_
  simp
  refine hC.runesStr (l := runesI s) rfl ⟨rfl, rfl, rfl⟩ (by simp) ?_
  refine hC.vc [] 60 ?_
  simp [h]
theorem g73 (Gl : Granted) (s : ByteArray) (hs : s.size ≤ 70368744177664) : Fun Tryz.prog Gl 73 [vS s] [] (vB (utfOk s)) [] := by
  refine fun_of (T := T4) (n := 11) (rs := [.tmp 2]) Tryz.func73 (by kernel_rfl) rfl rfl rfl tok4 mixed (by simp) fun C hC => ?_
  refine hC.vc [] 60 ?_
  simp
  refine hC.call [] (g119 Gl s hs) (by simp) ?_
  refine hC.vc [] 60 ?_
  simp
theorem g38 (Gl : Granted) (s : ByteArray) (hs : s.size ≤ 70368744177664) : Fun Tryz.prog Gl 38 [vS s] [] (vB (value s)) [] := by
  refine fun_of (T := T4) (n := 10) (rs := [.tmp 2]) Tryz.func38 (by kernel_rfl) rfl rfl rfl tok4 mixed (by simp) fun C hC => ?_
  by_cases h : (s.size : Int) ≤ 40
  · refine hC.vc [] 60 ?_
    simp [h]
    refine hC.call [] (g73 Gl s hs) (by simp) ?_
    refine hC.vc [] 60 ?_
    simp [value, h]
  · refine hC.vc [] 60 ?_
    simp [value, h]
set_option maxRecDepth 20000 in
set_option maxHeartbeats 4000000 in
theorem g120 (Gl : Granted) (l : List ByteArray) (hs : ∀ s ∈ l, s.size ≤ M47) : Fun Tryz.prog Gl 120 [.pv (strs l)] [] (vB (rise l)) [] := by
  refine fun_of (T := T4) (n := 32) (rs := [.tmp 2]) Tryz.func120 (by kernel_rfl) rfl rfl rfl tok4 mixed (by simp) fun C hC => ?_
  refine hC.go [] 60 ?_
  simp
  refine go_len 0 1 (l.map fun s => [.val (.string s)]) (by simp) fun hk => ?_
  rw [List.length_map] at hk
  refine go_loop (ι := {i : Nat // i ≤ l.length ∧ rise l = riseFrom (prevAt l i) (l.drop i)}) (fun x => ⟨[(0, .pv (strs l)), (3, vI x.1)], []⟩)
    (fun x => l.length - x.1) ⟨0, by simp [rise, prevAt]⟩ [] (by simp) fun x ih => ?_
  obtain ⟨i, hi, hn⟩ := x
  simp only at hi hn ih
  refine hC.go [] 60 ?_
  by_cases hlt : i < l.length
  · rw [List.drop_eq_getElem_cons hlt] at hn
    simp only [riseFrom] at hn
    have hw := wr64 ((i : Int) + 1) (by omega)
    simp [hlt]
    refine hC.drawn (by kernel_rfl) (by simp) ?_
    refine hC.go [] 60 ?_
    simp [hlt]
    refine hC.call [] (f100 Gl l[i] (by have := hs l[i] (by simp); simp only [M47] at this; omega)) (by simp) ?_
    refine hC.go [] 60 ?_
    cases hnm : isName l[i] with
    | false =>
      simp [hn, hnm]
    | true =>
      rw [hnm, Bool.true_and] at hn
      by_cases h0 : 0 < (i : Int)
      · have hw2 := wr64 ((i : Int) - 1) (by omega)
        have hi1 : i - 1 < l.length := by omega
        have h0n : 0 < i := by omega
        have e1 : ((i : Int) - 1) = ((i - 1 : Nat) : Int) := by omega
        have hp : prevAt l i = some l[i - 1] := by
          unfold prevAt
          rw [if_neg (by omega), List.getElem?_eq_getElem hi1]
        rw [hp] at hn
        simp only at hn
        rw [e1] at hw2
        cases hu : notUp l[i] l[i - 1] with
        | true =>
          rw [hu] at hn
          have hu' : (Op.bytesLess l[i].toList l[i - 1].toList || decide (l[i] = l[i - 1])) = true := hu
          simp [hlt, h0n, hw2, e1, hi1, hu', hn]
        | false =>
          rw [hu] at hn
          have hu' : (Op.bytesLess l[i].toList l[i - 1].toList || decide (l[i] = l[i - 1])) = false := hu
          simp [hlt, h0n, hw2, e1, hi1, hu']
          exact go_to [] (ih ⟨i + 1, hlt, by rw [prevAt_succ hlt, hn]; simp⟩ (by simp; omega)) (by simp [hw])
      · have hi0 : i = 0 := by omega
        subst hi0
        simp only [prevAt, if_true, Bool.true_and] at hn
        simp
        exact go_to [] (ih ⟨1, hlt, by rw [hn]; simp [prevAt, List.getElem?_eq_getElem hlt]⟩ (by simp; omega)) (by simp [wr64 1 (by omega)])
  · rw [List.drop_eq_nil_of_le (by omega)] at hn
    simp [hlt, hn, riseFrom]
theorem g121 (Gl : Granted) (l m : List ByteArray) : Fun Tryz.prog Gl 121 [.pv (strs l), .pv (strs m)] [] (vB (decide (l = m))) [] := by
  refine fun_of (T := T4) (n := 26) (rs := [.tmp 4]) Tryz.func121 (by kernel_rfl) rfl rfl rfl tok4 mixed (by simp) fun C hC => ?_
  by_cases h3 : (l.length : Int) = m.length
  · have h3' : l.length = m.length := by omega
    refine hC.vc [] 60 ?_
    simp [h3]
    refine go_len 0 1 (l.map fun s => [.val (.string s)]) (by simp) fun hk => ?_
    rw [List.length_map] at hk
    refine go_loop (ι := {i : Nat // i ≤ l.length ∧ decide (l = m) = decide (l.drop i = m.drop i)}) (fun x => ⟨[(0, .pv (strs l)), (1, .pv (strs m)), (5, vI x.1)], []⟩)
      (fun x => l.length - x.1) ⟨0, by simp⟩ [] (by simp) fun x ih => ?_
    obtain ⟨i, hi, hn⟩ := x
    simp only at hi hn ih
    refine hC.vc [] 60 ?_
    by_cases hlt : i < m.length
    · have hlt' : i < l.length := by omega
      rw [dec_drop hlt' hlt] at hn
      have hw := wr64 ((i : Int) + 1) (by omega)
      by_cases he : l[i] = m[i]
      · simp [hlt, hlt', he, h3]
        refine go_to [] (ih ⟨i + 1, hlt', by rw [hn, he]; simp⟩ (by simp; omega)) (by simp [hw])
      · simp [hlt, hlt', he, hn, h3]
    · rw [dec_end (by omega) (by omega)] at hn
      have hlt2 : ¬ i < l.length := by omega
      simp [hlt, hlt2, hn]
  · refine hC.vc [] 60 ?_
    simp [h3, dec_len h3]
end Go.Proofs.D
/-
  THE ANSWER TO CHAPTER 1: is a node well formed?
-/
set_option linter.unusedVariables false
set_option linter.unusedSimpArgs false
namespace Go.Proofs.D
open Go Go.Abs Go.RowKit
attribute [local simp] VC VCS stepVS stepTopS firstId memN bigB unmark markT mkOff calmP keepT boundB stepV stepTop stepReg stepOp stMove stPick stBin stUn stConv stBox stAlloc stLoad stStore stFieldAddr stField stExtract stNilCheck stMakeFunc stIndexAddr stIndex stLen
  stBuild placesOf fillA stBuildSlice sliceCells repL chunks allPV toPV drawOk drawOk.go mayMakeO mayMake1 disjoint pairOk Oper.apart Oper.looksAt Op.operands Call.operands Region.binds stAppend appBase appTail unName stSlice bndA
  LS.ev LS.get LS.blk LS.put LS.app LS.upd lkS lkH setS setH Nm.eqb guardOf nexts okPair dstOk AV.cellsOf takeAt putAt lkT sliceE fieldT intK isStrT isBoolT abin newOk LS.freshB LS.freshB.go LS.freshB.goH notIn AV.ments AV.ments.mentsL Blk.ments makes upsMents LS.start startL exitTo T T3 T4 outs callSideR callSideO callSideD upsR backO freshAll argB onlyIO List.map List.append List.nil_append List.cons_append Nat.blt
  conv convS convH srcs srcOf blkOk leA leA.leL Go.Abs.leB leP laid laidM isArg subH retP resAV resL res1 AV.frz AV.frz.frzL evL AV.ren AV.ren.renL Blk.ren renBs blksOf allSome nodupB onlyArgs blksMents callUps keyed inName inName.go backName callSide
set_option maxRecDepth 20000 in
set_option maxHeartbeats 4000000 in
theorem g74 (Gl : Granted) (n : N) (hw : n.wt ≤ 100000) : Fun Tryz.prog Gl 74 [n.av] [] (vB n.form) [] := by
  obtain ⟨z1, z2, z3, z4, z5, z6, z7, z8⟩ := N.lim hw
  have hrec : ∀ x ∈ n.kids, Fun Tryz.prog Gl 74 [x.av] [] (vB x.form) [] := fun x hx => g74 Gl x (z5 x hx)
  refine fun_of (T := T4) (n := 131) (rs := [.tmp 2]) Tryz.func74 (by kernel_rfl) rfl rfl rfl tok4 mixed (by simp) fun C hC => ?_
  have hform := N.form_eq n
  by_cases hkind : n.kind = textK
  · rw [if_pos hkind] at hform
    have hkind' : n.kind = ⟨#[116, 101, 120, 116]⟩ := hkind
    by_cases ht : n.text = ⟨#[]⟩
    · refine hC.go [] 60 ?_
      simp [N.av, N.cells, hkind', ht, hform]
    · simp only [ht, decide_false, Bool.not_false, Bool.true_and] at hform
      refine hC.go [] 60 ?_
      simp [N.av, N.cells, hkind', ht]
      refine hC.call [] (g73 Gl n.text (by omega)) (by simp) ?_
      refine hC.go [] 60 ?_
      cases hu : utfOk n.text with
      | false => simp [hform, hu, N.cells]
      | true =>
        rw [hu, Bool.true_and] at hform
        simp [N.cells]
        refine hC.call [] (g120 Gl n.marks fun s hs => Nat.le_trans (z3 s hs) (by decide)) (by simp) ?_
        refine hC.go [] 60 ?_
        cases hr : rise n.marks with
        | false => simp [hform, hr, N.cells]
        | true =>
          rw [hr, Bool.true_and] at hform
          by_cases h1 : n.attrs = []
          · have h1' : (n.attrs.length : Int) = 0 := by rw [h1]; rfl
            by_cases h2 : (n.kids.length : Int) = 0
            · have h2' : n.kids = [] := List.eq_nil_of_length_eq_zero (by omega)
              simp [N.cells, h1, h2', hform]
            · have h2' : ¬ n.kids = [] := fun e => h2 (by rw [e]; rfl)
              simp [N.cells, h1, h2', hform, h2]
          · have h1' : ¬ (n.attrs.length : Int) = 0 := fun e => h1 (List.eq_nil_of_length_eq_zero (by omega))
            simp [N.cells, h1, h1', hform]
  · rw [if_neg hkind] at hform
    have hkind' : ¬ n.kind = ⟨#[116, 101, 120, 116]⟩ := hkind
    refine hC.go [] 60 ?_
    simp [N.av, N.cells, hkind']
    refine go_loop (ι := {i : Nat // i ≤ n.attrs.length ∧ n.attrs.all (fun p => value p.2) = (n.attrs.drop i).all (fun p => value p.2)}) (fun x => ⟨[(1, .ptr (.loc 1) 0), (3, .own (.can 0)), (4, vI x.1)],
        [(.loc 1, some (.box 87 n.cells)), (.can 0, some (.row 9 1 ((n.attrs.map fun p => [PV.val (.string p.1)]).take x.1)))]⟩)
      (fun x => n.attrs.length - x.1) ⟨0, by simp⟩ [(.can 0, .nil)] (by simp [N.cells]) fun x ih => ?_
    obtain ⟨i, hi, hn⟩ := x
    simp only at hi hn ih
    refine hC.go [] 60 ?_
    by_cases hlt : i < n.attrs.length
    · have hw1 := wr64 ((i : Int) + 1) (by omega)
      rw [List.drop_eq_getElem_cons hlt, List.all_cons] at hn
      simp [hlt, N.cells]
      refine ⟨by omega, ?_⟩
      refine hC.call [] (g38 Gl n.attrs[i].2 (by have := (z4 n.attrs[i] (by simp)).2; omega)) (by simp) ?_
      cases hv : value n.attrs[i].2 with
      | false =>
        rw [hv, Bool.false_and] at hn
        have : n.form = false := by rw [hform, hn]; rfl
        refine hC.go [] 60 ?_
        simp [this]
      | true =>
        rw [hv, Bool.true_and] at hn
        refine hC.go [] 60 ?_
        simp
        have htk : (n.attrs.map fun p => [PV.val (.string p.1)]).take (i + 1) = (n.attrs.map fun p => [PV.val (.string p.1)]).take i ++ [[.val (.string n.attrs[i].1)]] := by
          rw [List.take_add_one, List.getElem?_map, List.getElem?_eq_getElem hlt]; rfl
        exact go_to [(.can 0, .nm (.loc 49))] (ih ⟨i + 1, hlt, hn⟩ (by simp; omega)) (by simp [hw1, N.cells, htk])
    · rw [List.drop_eq_nil_of_le (by omega), List.all_nil] at hn
      rw [hn, Bool.true_and] at hform
      have hnm : (n.attrs.map fun p => [PV.val (.string p.1)]).take i = (n.attrs.map (·.1)).map fun s => [PV.val (.string s)] := by
        rw [List.take_of_length_le (by simp; omega), List.map_map]; rfl
      rw [hnm]
      simp [hlt, N.cells]
      refine hC.call [] (f100 Gl n.kind (by omega)) (by simp) ?_
      cases hnk : isName n.kind with
      | false =>
        have : n.form = false := by rw [hform, hnk]; rfl
        refine hC.go [] 60 ?_
        simp [this, N.cells]
      | true =>
        rw [hnk, Bool.true_and] at hform
        by_cases ht : n.text = ⟨#[]⟩
        · by_cases hm : n.marks = []
          · simp only [ht, hm, decide_true, Bool.true_and] at hform
            refine hC.go [] 60 ?_
            simp [N.cells, ht, hm]
            refine hC.call [.can 0] (fun_ownRow (a := []) (b := []) (e := 9) (by simp) rfl (g120 Gl (n.attrs.map (·.1)) fun s hs => by
              obtain ⟨p, hp, rfl⟩ := List.mem_map.1 hs
              exact Nat.le_trans (z4 p hp).1 (by decide))) (by simp) ?_
            cases hr : rise (n.attrs.map (·.1)) with
            | false =>
              have : n.form = false := by rw [hform, hr]; rfl
              refine hC.go [] 60 ?_
              simp [this]
            | true =>
              rw [hr, Bool.true_and] at hform
              refine hC.go [] 60 ?_
              simp [N.cells]
              refine go_loop (ι := {i : Nat // i ≤ n.kids.length ∧ N.form.go none n.kids = N.form.go (prevAt n.kids i) (n.kids.drop i)}) (fun x => ⟨[(1, .ptr (.loc 1) 0), (5, vI x.1)], [(.loc 1, some (.box 87 n.cells))]⟩)
                (fun x => n.kids.length - x.1) ⟨0, by simp [prevAt]⟩ [] (by simp [N.cells, ht, hm]) fun x ih2 => ?_
              obtain ⟨j, hj, hn2⟩ := x
              simp only at hj hn2 ih2
              refine hC.go [] 60 ?_
              by_cases hlj : j < n.kids.length
              · have hw1 := wr64 ((j : Int) + 1) (by omega)
                rw [List.drop_eq_getElem_cons hlj] at hn2
                simp only [N.form.go] at hn2
                simp [hlj, N.cells]
                refine hC.drawn (by kernel_rfl) (by simp) ?_
                refine hC.go [] 60 ?_
                simp [hlj, N.pv_eq, N.cells]
                refine hC.call [] (hrec n.kids[j] (by simp)) (by simp [N.av, N.cells]) ?_
                cases hf : n.kids[j].form with
                | false =>
                  rw [hf, Bool.false_and, Bool.false_and] at hn2
                  have : n.form = false := by rw [hform, hn2]
                  refine hC.go [] 60 ?_
                  simp [this]
                | true =>
                  rw [hf, Bool.true_and] at hn2
                  by_cases h0 : 0 < j
                  · have hw2 := wr64 ((j : Int) - 1) (by omega)
                    have hj1 : j - 1 < n.kids.length := by omega
                    have e1 : ((j : Int) - 1) = ((j - 1 : Nat) : Int) := by omega
                    have hp : prevAt n.kids j = some n.kids[j - 1] := by
                      unfold prevAt
                      rw [if_neg (by omega), List.getElem?_eq_getElem hj1]
                    rw [hp] at hn2
                    simp only at hn2
                    rw [e1] at hw2
                    by_cases hk1 : n.kids[j].kind = ⟨#[116, 101, 120, 116]⟩
                    · by_cases hk2 : n.kids[j - 1].kind = ⟨#[116, 101, 120, 116]⟩
                      · have ha : alike n.kids[j - 1] n.kids[j] = decide (n.kids[j].marks = n.kids[j - 1].marks) := by
                          simp [alike, N.isText, textK, hk1, hk2, eq_comm]
                        rw [ha] at hn2
                        refine hC.go [] 60 ?_
                        simp [hlj, h0, hw2, e1, hj1, N.cells, N.pv_eq, hk1, hk2]
                        refine hC.call [] (g121 Gl n.kids[j].marks n.kids[j - 1].marks) (by simp) ?_
                        refine hC.go [] 60 ?_
                        cases hd : decide (n.kids[j].marks = n.kids[j - 1].marks) with
                        | true =>
                          rw [hd] at hn2
                          have : n.form = false := by rw [hform, hn2]; rfl
                          simp [this]
                        | false =>
                          rw [hd] at hn2
                          simp
                          exact go_to [] (ih2 ⟨j + 1, hlj, by rw [prevAt_succ hlj, hn2]; simp⟩ (by simp; omega)) (by simp [hw1, N.cells])
                      · have ha : alike n.kids[j - 1] n.kids[j] = false := by simp [alike, N.isText, textK, hk2]
                        rw [ha] at hn2
                        refine hC.go [] 60 ?_
                        simp [hlj, h0, hw2, e1, hj1, N.cells, N.pv_eq, hk1, hk2]
                        exact go_to [] (ih2 ⟨j + 1, hlj, by rw [prevAt_succ hlj, hn2]; simp⟩ (by simp; omega)) (by simp [hw1, N.cells])
                    · have ha : alike n.kids[j - 1] n.kids[j] = false := by simp [alike, N.isText, textK, hk1]
                      rw [ha] at hn2
                      refine hC.go [] 60 ?_
                      simp [hlj, h0, hw2, e1, hj1, N.cells, N.pv_eq, hk1]
                      exact go_to [] (ih2 ⟨j + 1, hlj, by rw [prevAt_succ hlj, hn2]; simp⟩ (by simp; omega)) (by simp [hw1, N.cells])
                  · have hj0 : j = 0 := by omega
                    subst hj0
                    simp only [prevAt, if_true, Bool.true_and] at hn2
                    refine hC.go [] 60 ?_
                    simp
                    exact go_to [] (ih2 ⟨1, hlj, by rw [hn2]; simp [prevAt, List.getElem?_eq_getElem hlj]⟩ (by simp; omega)) (by simp [wr64 1 (by omega), N.cells])
              · rw [List.drop_eq_nil_of_le (by omega)] at hn2
                simp only [N.form.go] at hn2
                have : n.form = true := by rw [hform, hn2]
                have hlj' : ¬ (j : Int) < n.kids.length := by omega
                simp [hlj, this, N.cells]
          · have : n.form = false := by rw [hform]; simp [hm]
            have hml : 0 < n.marks.length := List.length_pos_iff.2 hm
            refine hC.go [] 60 ?_
            simp [N.cells, ht, hml, this]
        · have : n.form = false := by rw [hform]; simp [ht]
          refine hC.go [] 60 ?_
          simp [N.cells, ht, this]
termination_by SizeOf.sizeOf n
decreasing_by exact N.kids_lt hx
end Go.Proofs.D
/-
  THE ANSWER TO CHAPTER 1: how deep, how large; what is wrong with a node; are two the same?
-/
set_option linter.unusedVariables false
set_option linter.unusedSimpArgs false
namespace Go.Proofs.D
open Go Go.Abs Go.RowKit
attribute [local simp] VC VCS stepVS stepTopS firstId memN bigB unmark markT mkOff calmP keepT boundB stepV stepTop stepReg stepOp stMove stPick stBin stUn stConv stBox stAlloc stLoad stStore stFieldAddr stField stExtract stNilCheck stMakeFunc stIndexAddr stIndex stLen
  stBuild placesOf fillA stBuildSlice sliceCells repL chunks allPV toPV drawOk drawOk.go mayMakeO mayMake1 disjoint pairOk Oper.apart Oper.looksAt Op.operands Call.operands Region.binds stAppend appBase appTail unName stSlice bndA
  LS.ev LS.get LS.blk LS.put LS.app LS.upd lkS lkH setS setH Nm.eqb guardOf nexts okPair dstOk AV.cellsOf takeAt putAt lkT sliceE fieldT intK isStrT isBoolT abin newOk LS.freshB LS.freshB.go LS.freshB.goH notIn AV.ments AV.ments.mentsL Blk.ments makes upsMents LS.start startL exitTo T T3 T4 outs callSideR callSideO callSideD upsR backO freshAll argB onlyIO List.map List.append List.nil_append List.cons_append Nat.blt
  conv convS convH srcs srcOf blkOk leA leA.leL Go.Abs.leB leP laid laidM isArg subH retP resAV resL res1 AV.frz AV.frz.frzL evL AV.ren AV.ren.renL Blk.ren renBs blksOf allSome nodupB onlyArgs blksMents callUps keyed inName inName.go backName callSide
set_option maxRecDepth 20000 in
theorem g75 (Gl : Granted) (n : N) : Fun Tryz.prog Gl 75 [n.av] [] (vI n.deep) [] := by
  have hrec : ∀ x ∈ n.kids, Fun Tryz.prog Gl 75 [x.av] [] (vI x.deep) [] := fun x hx => g75 Gl x
  refine fun_of (T := T4) (n := 25) (rs := [.tmp 2]) Tryz.func75 (by kernel_rfl) rfl rfl rfl tok4 mixed (by simp) fun C hC => ?_
  have hd := N.deep_eq n
  by_cases hkind : n.kind = textK
  · rw [if_pos hkind] at hd
    have hkind' : n.kind = ⟨#[116, 101, 120, 116]⟩ := hkind
    refine hC.go [] 60 ?_
    simp [N.av, N.cells, hkind', hd]
  · rw [if_neg hkind] at hd
    have hkind' : ¬ n.kind = ⟨#[116, 101, 120, 116]⟩ := hkind
    refine hC.go [] 60 ?_
    simp [N.av, N.cells, hkind']
    refine go_lenB (.loc 1) 87 n.cells 4 5 (n.kids.map N.pv) (by simp [N.cells]) rfl fun hl => ?_
    rw [List.length_map] at hl
    refine go_loop (ι := {x : Nat × Int // x.1 ≤ n.kids.length ∧ N.deep.go n.kids 0 = N.deep.go (n.kids.drop x.1) x.2}) (fun x => ⟨[(1, .ptr (.loc 1) 0), (3, vI x.1.2), (4, vI x.1.1)], [(.loc 1, some (.box 87 n.cells))]⟩)
      (fun x => n.kids.length - x.1.1) ⟨(0, 0), by simp⟩ [] (by simp [N.cells]) fun x ih => ?_
    obtain ⟨⟨i, d⟩, hi, hn⟩ := x
    simp only at hi hn ih
    refine hC.go [] 60 ?_
    by_cases hlt : i < n.kids.length
    · have hw1 := wr64 ((i : Int) + 1) (by omega)
      rw [List.drop_eq_getElem_cons hlt] at hn
      simp only [N.deep.go] at hn
      simp [hlt, N.pv_eq, N.cells]
      refine hC.call [] (hrec n.kids[i] (by simp)) (by simp [N.av, N.cells]) ?_
      refine hC.go [] 2 ?_
      simp
      obtain ⟨m, hm⟩ : ∃ m, m = (if d < n.kids[i].deep then n.kids[i].deep else d) := ⟨_, rfl⟩
      rw [← hm] at hn
      refine hC.max (k := .i64) (a := d) (b := n.kids[i].deep) rfl rfl rfl (by simp) ?_
      rw [show (if n.kids[i].deep > d then n.kids[i].deep else d) = m from hm.symm]
      refine hC.go [] 60 ?_
      simp
      exact go_to [] (ih ⟨(i + 1, _), hlt, hn⟩ (by simp; omega)) (by simp [hw1, N.cells])
    · rw [List.drop_eq_nil_of_le (by omega)] at hn
      simp only [N.deep.go] at hn
      have hlt' : ¬ (i : Int) < n.kids.length := by omega
      simp [hlt, hd, hn, N.cells]
termination_by SizeOf.sizeOf n
decreasing_by exact N.kids_lt hx
theorem g122k (Gl : Granted) (l : List N) (hrec : ∀ x ∈ l, Fun Tryz.prog Gl 76 [x.av] [] (vI x.size) []) : Fun Tryz.prog Gl 122 [.pv (nodes l)] [] (vI (N.size.go l 0)) [] := by
  refine fun_of (T := T4) (n := 19) (rs := [.tmp 2]) Tryz.func122 (by kernel_rfl) rfl rfl rfl tok4 mixed (by simp) fun C hC => ?_
  refine hC.go [] 60 ?_
  simp
  refine go_len 0 5 (l.map N.pv) (by simp) fun hl => ?_
  rw [List.length_map] at hl
  refine go_loop (ι := {x : Nat × Int // x.1 ≤ l.length ∧ N.size.go l 0 = N.size.go (l.drop x.1) x.2}) (fun x => ⟨[(0, .pv (nodes l)), (3, vI x.1.2), (4, vI x.1.1)], []⟩)
    (fun x => l.length - x.1.1) ⟨(0, 0), by simp⟩ [] (by simp) fun x ih => ?_
  obtain ⟨⟨i, d⟩, hi, hn⟩ := x
  simp only at hi hn ih
  refine hC.go [] 60 ?_
  by_cases hlt : i < l.length
  · have hw1 := wr64 ((i : Int) + 1) (by omega)
    rw [List.drop_eq_getElem_cons hlt] at hn
    simp only [N.size.go] at hn
    simp [hlt, N.pv_eq]
    refine hC.call [] (hrec l[i] (by simp)) (by simp [N.av, N.cells]) ?_
    refine hC.go [] 60 ?_
    simp
    exact go_to [] (ih ⟨(i + 1, _), hlt, hn⟩ (by simp; omega)) (by simp [hw1])
  · rw [List.drop_eq_nil_of_le (by omega)] at hn
    simp only [N.size.go] at hn
    simp [hlt, hn]
set_option maxRecDepth 20000 in
theorem g76 (Gl : Granted) (n : N) (hw : n.wt ≤ 100000) : Fun Tryz.prog Gl 76 [n.av] [] (vI n.size) [] := by
  obtain ⟨z1, z2, z3, z4, z5, z6, z7, z8⟩ := N.lim hw
  have hrec : ∀ x ∈ n.kids, Fun Tryz.prog Gl 76 [x.av] [] (vI x.size) [] := fun x hx => g76 Gl x (z5 x hx)
  refine fun_of (T := T4) (n := 20) (rs := [.tmp 2]) Tryz.func76 (by kernel_rfl) rfl rfl rfl tok4 mixed (by simp) fun C hC => ?_
  have hd := N.size_eq n
  by_cases hkind : n.kind = textK
  · rw [if_pos hkind] at hd
    have hkind' : n.kind = ⟨#[116, 101, 120, 116]⟩ := hkind
    have hc := runesI_count n.text
    refine hC.go [] 60 ?_
    simp [N.av, N.cells, hkind']
    refine hC.call [] (g119 Gl n.text (by omega)) (by simp) ?_
    refine hC.go [] 60 ?_
    simp [hd, hc]
  · rw [if_neg hkind] at hd
    have hkind' : ¬ n.kind = ⟨#[116, 101, 120, 116]⟩ := hkind
    refine hC.go [] 60 ?_
    simp [N.av, N.cells, hkind']
    refine hC.call [] (g122k Gl n.kids hrec) (by simp) ?_
    refine hC.go [] 60 ?_
    simp [hd]
termination_by SizeOf.sizeOf n
decreasing_by exact N.kids_lt hx
theorem g122 (Gl : Granted) (l : List N) (hw : ∀ x ∈ l, x.wt ≤ 100000) : Fun Tryz.prog Gl 122 [.pv (nodes l)] [] (vI (N.size.go l 0)) [] :=
  g122k Gl l fun x hx => g76 Gl x (hw x hx)
theorem g39 (Gl : Granted) (n : N) (hw : n.wt ≤ 100000) : Fun Tryz.prog Gl 39 [n.av] [] (vI n.check) [] := by
  refine fun_of (T := T4) (n := 12) (rs := [.tmp 2]) Tryz.func39 (by kernel_rfl) rfl rfl rfl tok4 mixed (by simp) fun C hC => ?_
  refine hC.go [] 60 ?_
  simp [N.av, N.cells]
  refine hC.call [] (g74 Gl n hw) (by simp [N.av, N.cells]) ?_
  cases hf : n.form with
  | false =>
    have : n.check = 2 := by simp [N.check, hf]
    refine hC.go [] 60 ?_
    simp [this]
  | true =>
    refine hC.go [] 60 ?_
    simp [N.cells]
    refine hC.call [] (g75 Gl n) (by simp [N.av, N.cells]) ?_
    by_cases h1 : 40 < n.deep
    · have : n.check = 4 := by simp [N.check, hf, h1]
      refine hC.go [] 60 ?_
      simp [h1, this]
    · refine hC.go [] 60 ?_
      simp [N.cells, h1]
      refine hC.call [] (g76 Gl n hw) (by simp [N.av, N.cells]) ?_
      by_cases h2 : 4000 < n.size
      · have : n.check = 5 := by simp [N.check, hf, h1, h2]
        refine hC.go [] 60 ?_
        simp [h2, this]
      · have : n.check = 0 := by simp [N.check, hf, h1, h2]
        refine hC.go [] 60 ?_
        simp [h2, this]
theorem g45k (Gl : Granted) (l m : List N) (hf : ∀ x ∈ l, ∀ y : N, Fun Tryz.prog Gl 88 [x.av, y.av] [] (vB (decide (x = y))) []) : Fun Tryz.prog Gl 45 [.pv (nodes l), .pv (nodes m)] [] (vB (decide (l = m))) [] := by
  refine fun_of (T := T4) (n := 27) (rs := [.tmp 4]) Tryz.func45 (by kernel_rfl) rfl rfl rfl tok4 mixed (by simp) fun C hC => ?_
  by_cases h3 : (l.length : Int) = m.length
  · have h3' : l.length = m.length := by omega
    refine hC.go [] 60 ?_
    simp [h3]
    refine go_len 0 5 (l.map N.pv) (by simp) fun hk => ?_
    rw [List.length_map] at hk
    refine go_loop (ι := {i : Nat // i ≤ l.length ∧ decide (l = m) = decide (l.drop i = m.drop i)}) (fun x => ⟨[(0, .pv (nodes l)), (1, .pv (nodes m)), (5, vI x.1)], []⟩)
      (fun x => l.length - x.1) ⟨0, by simp⟩ [] (by simp) fun x ih => ?_
    obtain ⟨i, hi, hn⟩ := x
    simp only at hi hn ih
    refine hC.go [] 60 ?_
    by_cases hlt : i < m.length
    · have hlt' : i < l.length := by omega
      rw [dec_drop hlt' hlt] at hn
      have hw := wr64 ((i : Int) + 1) (by omega)
      simp [hlt, hlt', h3]
      refine hC.drawn (by kernel_rfl) (by simp) ?_
      refine hC.go [] 60 ?_
      simp [hlt, hlt', N.pv_eq]
      refine hC.call [] (hf l[i] (by simp) m[i]) (by simp [N.av, N.cells]) ?_
      refine hC.go [] 60 ?_
      cases he : decide (l[i] = m[i]) with
      | true =>
        rw [he, Bool.true_and] at hn
        simp
        exact go_to [] (ih ⟨i + 1, hlt', hn⟩ (by simp; omega)) (by simp [hw])
      | false =>
        rw [he, Bool.false_and] at hn
        simp [hn]
    · rw [dec_end (by omega) (by omega)] at hn
      have hlt' : ¬ i < l.length := by omega
      simp [hlt, hlt', hn]
  · refine hC.go [] 60 ?_
    simp [h3, dec_len h3]
set_option maxRecDepth 20000 in
set_option maxHeartbeats 4000000 in
theorem g88 (Gl : Granted) (a b : N) : Fun Tryz.prog Gl 88 [a.av, b.av] [] (vB (decide (a = b))) [] := by
  have hk : ∀ x ∈ a.kids, ∀ y : N, Fun Tryz.prog Gl 88 [x.av, y.av] [] (vB (decide (x = y))) [] := fun x hx y => g88 Gl x y
  have hd := N.dec a b
  refine fun_of (T := T4) (n := 58) (rs := [.tmp 4]) Tryz.func88 (by kernel_rfl) rfl rfl rfl tok4 mixed (by simp) fun C hC => ?_
  by_cases h1 : a.kind = b.kind
  · by_cases h2 : a.text = b.text
    · simp only [h1, h2, decide_true, Bool.true_and] at hd
      refine hC.go [] 60 ?_
      simp [N.av, N.cells, h1, h2]
      refine hC.call [] (g121 Gl a.marks b.marks) (by simp) ?_
      cases h3 : decide (a.marks = b.marks) with
      | false =>
        rw [h3, Bool.false_and, Bool.false_and] at hd
        refine hC.go [] 60 ?_
        simp [hd, N.cells]
      | true =>
        rw [h3, Bool.true_and] at hd
        by_cases h4 : (a.attrs.length : Int) = b.attrs.length
        · have h4' : a.attrs.length = b.attrs.length := by omega
          refine hC.go [] 60 ?_
          simp [N.cells, h4]
          refine go_lenB (.loc 2) 87 a.cells 3 2 (a.attrs.map fun p => [.val (.string p.1), .val (.string p.2)]) (by simp [N.cells, h1, h2]) rfl fun hl => ?_
          rw [List.length_map] at hl
          refine go_loop (ι := {i : Nat // i ≤ a.attrs.length ∧ decide (a.attrs = b.attrs) = decide (a.attrs.drop i = b.attrs.drop i)}) (fun x => ⟨[(2, .ptr (.loc 2) 0), (3, .ptr (.loc 3) 0), (5, vI x.1)], [(.loc 2, some (.box 87 a.cells)), (.loc 3, some (.box 87 b.cells))]⟩)
            (fun x => a.attrs.length - x.1) ⟨0, by simp⟩ [] (by simp [N.cells, h1, h2]) fun x ih => ?_
          obtain ⟨i, hi, hn⟩ := x
          simp only at hi hn ih
          refine hC.go [] 60 ?_
          by_cases hlt : i < b.attrs.length
          · have hlt' : i < a.attrs.length := by omega
            rw [dec_drop hlt' hlt] at hn
            have hw := wr64 ((i : Int) + 1) (by omega)
            simp [hlt, hlt', h4, N.cells]
            refine hC.drawn (by kernel_rfl) (by simp) ?_
            refine hC.go [] 60 ?_
            simp [hlt, hlt', N.cells]
            refine hC.neqAgg (a := a.attrs[i].1) (b := a.attrs[i].2) (c := b.attrs[i].1) (d := b.attrs[i].2) (fun w => attr_cmp _ _ _ _ w) rfl (by simp) ?_
            refine hC.go [] 60 ?_
            by_cases he : a.attrs[i] = b.attrs[i]
            · have he' : (a.attrs[i].1, a.attrs[i].2) = (b.attrs[i].1, b.attrs[i].2) := by rw [he]
              simp only [he', decide_true, Bool.not_true]
              simp
              refine go_to [] (ih ⟨i + 1, hlt', by rw [hn, he]; simp⟩ (by simp; omega)) (by simp [hw, N.cells])
            · have he' : ¬ (a.attrs[i].1, a.attrs[i].2) = (b.attrs[i].1, b.attrs[i].2) := fun e => he (by simpa [Prod.ext_iff] using e)
              have : decide (a = b) = false := by rw [hd, hn]; simp [he]
              simp only [he', decide_false, Bool.not_false]
              simp [this]
          · rw [dec_end (by omega) (by omega)] at hn
            rw [hn, Bool.true_and] at hd
            have hlt' : ¬ i < a.attrs.length := by omega
            simp [hlt, hlt', N.cells]
            refine hC.call [] (g45k Gl a.kids b.kids hk) (by simp) ?_
            refine hC.go [] 60 ?_
            simp [hd]
        · have : decide (a = b) = false := by rw [hd, dec_len h4]; rfl
          refine hC.go [] 60 ?_
          simp [N.cells, h4, this]
    · have : decide (a = b) = false := by rw [hd]; simp [h2]
      refine hC.go [] 60 ?_
      simp [N.av, N.cells, h1, h2, this]
  · have : decide (a = b) = false := by rw [hd]; simp [h1]
    refine hC.go [] 60 ?_
    simp [N.av, N.cells, h1, this]
termination_by SizeOf.sizeOf a
decreasing_by exact N.kids_lt hx
theorem g45 (Gl : Granted) (l m : List N) : Fun Tryz.prog Gl 45 [.pv (nodes l), .pv (nodes m)] [] (vB (decide (l = m))) [] := g45k Gl l m fun x _ y => g88 Gl x y
end Go.Proofs.D
/-
  COMPLEMENTS as the answer has them; are two the same? A text between quotes.
-/
set_option linter.unusedVariables false
set_option linter.unusedSimpArgs false
namespace Go.Proofs.D
open Go Go.Abs Go.RowKit
attribute [local simp] VC VCS stepVS stepTopS firstId memN bigB unmark markT mkOff calmP keepT boundB stepV stepTop stepReg stepOp stMove stPick stBin stUn stConv stBox stAlloc stLoad stStore stFieldAddr stField stExtract stNilCheck stMakeFunc stIndexAddr stIndex stLen
  stBuild placesOf fillA stBuildSlice sliceCells repL chunks allPV toPV drawOk drawOk.go mayMakeO mayMake1 disjoint pairOk Oper.apart Oper.looksAt Op.operands Call.operands Region.binds stAppend appBase appTail unName stSlice bndA
  LS.ev LS.get LS.blk LS.put LS.app LS.upd lkS lkH setS setH Nm.eqb guardOf nexts okPair dstOk AV.cellsOf takeAt putAt lkT sliceE fieldT intK isStrT isBoolT abin newOk LS.freshB LS.freshB.go LS.freshB.goH notIn AV.ments AV.ments.mentsL Blk.ments makes upsMents LS.start startL exitTo T T3 T4 outs callSideR callSideO callSideD upsR backO freshAll argB onlyIO List.map List.append List.nil_append List.cons_append Nat.blt
  conv convS convH srcs srcOf blkOk leA leA.leL Go.Abs.leB leP laid laidM isArg subH retP resAV resL res1 AV.frz AV.frz.frzL evL AV.ren AV.ren.renL Blk.ren renBs blksOf allSome nodupB onlyArgs blksMents callUps keyed inName inName.go backName callSide
theorem Ent.pv_eq' (e : Ent) : e.pv = [.val (.bool e.has), .val (.string e.value), nodes e.rest] := rfl
theorem take_row {α β : Type} (f : α → β) {l : List α} {i : Nat} (h : i < l.length) : (l.map f).take (i + 1) = (l.map f).take i ++ [f l[i]] := by
  rw [List.take_add_one, List.getElem?_map, List.getElem?_eq_getElem h]; rfl
set_option maxRecDepth 20000 in
set_option maxHeartbeats 4000000 in
theorem g11 (Gl : Granted) (c : Cm) (hc : c.length ≤ 1000000) (hl : ∀ l ∈ c, l.length ≤ 1000000) : Fun Tryz.prog Gl 11 [.pv (comp c)] [] (.pv (comp c)) [] := by
  refine fun_of (T := T4) (n := 55) (rs := [.tmp 2]) Tryz.func11 (by kernel_rfl) rfl rfl rfl tok4 mixed (by simp) fun C hC => ?_
  refine hC.go [] 60 ?_
  simp
  refine go_loop (ι := {i : Nat // i ≤ c.length}) (fun x => ⟨[(0, .pv (comp c)), (3, .own (.can 0)), (4, vI x.1)], [(.can 0, some (.row 100 1 ((c.map fun l => [slot l]).take x.1)))]⟩)
    (fun x => c.length - x.1) ⟨0, by simp⟩ [(.can 0, .nil)] (by simp) fun x ih => ?_
  obtain ⟨i, hi⟩ := x
  simp only at hi ih
  refine hC.go [] 60 ?_
  by_cases hlt : i < c.length
  · have hw1 := wr64 ((i : Int) + 1) (by omega)
    obtain ⟨l, hll⟩ : ∃ l, c[i] = l := ⟨_, rfl⟩
    have hln : l.length ≤ 1000000 := hl l (by rw [← hll]; simp)
    simp [hlt]
    refine go_loop (ι := {j : Nat // j ≤ l.length}) (fun x => ⟨[(0, .pv (comp c)), (3, .own (.can 0)), (4, vI i), (5, .own (.can 1)), (6, vI x.1)], [(.can 0, some (.row 100 1 ((c.map fun l => [slot l]).take i))), (.can 1, some (.row 101 3 ((l.map Ent.pv).take x.1)))]⟩)
      (fun x => l.length - x.1) ⟨0, by simp⟩ [(.can 1, .nil)] (by simp) fun x ih2 => ?_
    obtain ⟨j, hj⟩ := x
    simp only at hj ih2
    by_cases hlj : j < l.length
    · have hw2 := wr64 ((j : Int) + 1) (by omega)
      refine hC.go [] 60 ?_
      simp [hlt, hll, hlj]
      refine hC.drawn (by kernel_rfl) (by simp) ?_
      refine hC.go [] 60 ?_
      simp [hlt, hll, hlj, Ent.pv_eq']
      refine ⟨by omega, ?_⟩
      exact go_to [(.can 1, .nm (.loc 49))] (ih2 ⟨j + 1, hlj⟩ (by simp; omega)) (by simp [hw2, take_row Ent.pv hlj, Ent.pv_eq'])
    · refine hC.til [10] [] 60 ?_
      simp [hlt, hll, hlj]
      have htk : (l.map Ent.pv).take j = l.map Ent.pv := List.take_of_length_le (by simp; omega)
      rw [htk]
      refine go_to (M := ⟨[(0, .pv (comp c)), (3, .own (.can 0)), (4, vI i), (5, .pv (slot l))], [(.can 0, some (.row 100 1 ((c.map fun l => [slot l]).take i)))]⟩) [] (hC.go [] 60 ?_) (by simp)
      simp
      refine ⟨by omega, ?_⟩
      exact go_to [(.can 0, .nm (.loc 53))] (ih ⟨i + 1, hlt⟩ (by simp; omega)) (by simp [hw1, take_row (fun l => [slot l]) hlt, hll])
  · have htk : (c.map fun l => [slot l]).take i = c.map fun l => [slot l] := List.take_of_length_le (by simp; omega)
    have hlt' : ¬ (i : Int) < c.length := by omega
    simp [hlt, htk]
set_option maxRecDepth 20000 in
set_option maxHeartbeats 4000000 in
theorem g14 (Gl : Granted) (a b : Cm) (hla : ∀ l ∈ a, l.length ≤ 1000000) : Fun Tryz.prog Gl 14 [.pv (comp a), .pv (comp b)] [] (vB (decide (a = b))) [] := by
  refine fun_of (T := T4) (n := 74) (rs := [.tmp 4]) Tryz.func14 (by kernel_rfl) rfl rfl rfl tok4 mixed (by simp) fun C hC => ?_
  by_cases h3 : (a.length : Int) = b.length
  · have h3' : a.length = b.length := by omega
    refine hC.go [] 60 ?_
    simp [h3]
    refine go_len 0 1 (a.map fun l => [slot l]) (by simp) fun hk => ?_
    rw [List.length_map] at hk
    refine go_loop (ι := {i : Nat // i ≤ a.length ∧ decide (a = b) = decide (a.drop i = b.drop i)}) (fun x => ⟨[(0, .pv (comp a)), (1, .pv (comp b)), (5, vI x.1)], []⟩)
      (fun x => a.length - x.1) ⟨0, by simp⟩ [] (by simp) fun x ih => ?_
    obtain ⟨i, hi, hn⟩ := x
    simp only at hi hn ih
    by_cases hlt : i < b.length
    · have hlt' : i < a.length := by omega
      rw [dec_drop hlt' hlt] at hn
      have hw := wr64 ((i : Int) + 1) (by omega)
      obtain ⟨l, hl⟩ : ∃ l, a[i] = l := ⟨_, rfl⟩
      obtain ⟨m, hm⟩ : ∃ m, b[i] = m := ⟨_, rfl⟩
      rw [hl, hm] at hn
      refine hC.go [] 60 ?_
      simp [hlt, hlt', h3]
      refine hC.drawn (by kernel_rfl) (by simp) ?_
      refine hC.go [] 60 ?_
      by_cases h4 : (l.length : Int) = m.length
      · have h4' : l.length = m.length := by omega
        simp [hlt, hlt', hl, hm, h4]
        refine hC.go [] 60 ?_
        simp
        refine go_loop (ι := {j : Nat // j ≤ l.length ∧ decide (l = m) = decide (l.drop j = m.drop j)}) (fun x => ⟨[(0, .pv (comp a)), (1, .pv (comp b)), (5, vI i), (6, vI x.1)], []⟩)
          (fun x => l.length - x.1) ⟨0, by simp⟩ [] (by simp) fun x ih2 => ?_
        obtain ⟨j, hj, hn2⟩ := x
        simp only at hj hn2 ih2
        by_cases hlj : j < m.length
        · have hlj' : j < l.length := by omega
          rw [dec_drop hlj' hlj] at hn2
          have hw2 := wr64 ((j : Int) + 1) (by have := hla l (by rw [← hl]; simp); omega)
          obtain ⟨x, hx⟩ : ∃ x, l[j] = x := ⟨_, rfl⟩
          obtain ⟨y, hy⟩ : ∃ y, m[j] = y := ⟨_, rfl⟩
          rw [hx, hy] at hn2
          have hd := Ent.dec x y
          cases e1 : (x.has == y.has) with
          | false =>
            rw [e1, Bool.false_and, Bool.false_and] at hd
            rw [hd, Bool.false_and] at hn2
            rw [hn2, Bool.false_and] at hn
            refine hC.go [] 100 ?_
            simp [hlt, hlt', hl, hm, h4, hlj, hlj', hx, hy, Ent.pv_eq', e1, hn]
          | true =>
            by_cases e2 : x.value = y.value
            · simp only [e1, e2, decide_true, Bool.true_and] at hd
              refine hC.go [] 100 ?_
              simp [hlt, hlt', hl, hm, h4, hlj, hlj', hx, hy, Ent.pv_eq', e1, e2]
              refine hC.call [] (g45 Gl x.rest y.rest) (by simp) ?_
              refine hC.go [] 100 ?_
              cases e3 : decide (x.rest = y.rest) with
              | false =>
                rw [e3] at hd
                rw [hd, Bool.false_and] at hn2
                rw [hn2, Bool.false_and] at hn
                simp [hn]
              | true =>
                rw [e3] at hd
                rw [hd, Bool.true_and] at hn2
                simp
                exact go_to [] (ih2 ⟨j + 1, hlj', hn2⟩ (by simp; omega)) (by simp [hw2])
            · simp only [e2, decide_false, Bool.false_and, Bool.and_false] at hd
              rw [hd, Bool.false_and] at hn2
              rw [hn2, Bool.false_and] at hn
              refine hC.go [] 100 ?_
              simp [hlt, hlt', hl, hm, h4, hlj, hlj', hx, hy, Ent.pv_eq', e1, e2, hn]
        · rw [dec_end (by omega) (by omega)] at hn2
          rw [hn2, Bool.true_and] at hn
          have hlj' : ¬ j < l.length := by omega
          refine hC.go [] 100 ?_
          simp [hlt, hlt', hl, hm, h4, hlj, hlj']
          exact go_to [] (ih ⟨i + 1, hlt', hn⟩ (by simp; omega)) (by simp [hw])
      · have : decide (l = m) = false := dec_len h4
        rw [this, Bool.false_and] at hn
        simp [hlt, hlt', hl, hm, h4, hn]
    · rw [dec_end (by omega) (by omega)] at hn
      have hlt' : ¬ i < a.length := by omega
      refine hC.go [] 100 ?_
      simp [hlt, hlt', hn]
  · refine hC.go [] 60 ?_
    simp [h3, dec_len h3]
end Go.Proofs.D
/-
  THE ANSWER TO CHAPTER 2: how a node is written.
-/
set_option linter.unusedVariables false
set_option linter.unusedSimpArgs false
namespace Go.Proofs.D
open Go Go.Abs Go.RowKit
attribute [local simp] VC VCS stepVS stepTopS firstId memN bigB unmark markT mkOff calmP keepT boundB stepV stepTop stepReg stepOp stMove stPick stBin stUn stConv stBox stAlloc stLoad stStore stFieldAddr stField stExtract stNilCheck stMakeFunc stIndexAddr stIndex stLen
  stBuild placesOf fillA stBuildSlice sliceCells repL chunks allPV toPV drawOk drawOk.go mayMakeO mayMake1 disjoint pairOk Oper.apart Oper.looksAt Op.operands Call.operands Region.binds stAppend appBase appTail unName stSlice bndA
  LS.ev LS.get LS.blk LS.put LS.app LS.upd lkS lkH setS setH Nm.eqb guardOf nexts okPair dstOk AV.cellsOf takeAt putAt lkT sliceE fieldT intK isStrT isBoolT abin newOk LS.freshB LS.freshB.go LS.freshB.goH notIn AV.ments AV.ments.mentsL Blk.ments makes upsMents LS.start startL exitTo T T3 T4 outs callSideR callSideO callSideD upsR backO freshAll argB onlyIO List.map List.append List.nil_append List.cons_append Nat.blt
  conv convS convH srcs srcOf blkOk leA leA.leL Go.Abs.leB leP laid laidM isArg subH retP resAV resL res1 AV.frz AV.frz.frzL evL AV.ren AV.ren.renL Blk.ren renBs blksOf allSome nodupB onlyArgs blksMents callUps keyed inName inName.go backName callSide
theorem bs_app (a b : Bs) : bs a ++ bs b = bs (a ++ b) := bsExt (by simp [bs, ByteArray.data_append])
theorem bs_of (s : ByteArray) : s = bs s.data.toList := bsExt (by simp [bs])
theorem extract1 (s : ByteArray) (i : Nat) (h : i < s.size) : s.extract i (i + 1) = bs [s.data.toList[i]'(by simpa using h)] := bsExt (by
  have h' : i < s.data.toList.length := by simpa using h
  simp only [bs, ByteArray.data_extract]
  simp only [Array.toList_extract, List.extract_eq_take_drop, Nat.add_sub_cancel_left]
  rw [List.drop_eq_getElem_cons h']
  simp)
theorem esc_append (a b : Bs) : esc (a ++ b) = esc a ++ esc b := by
  induction a with
  | nil => rfl
  | cons c l ih =>
    simp only [List.cons_append, esc, ih]
    split <;> rfl
theorem take_snoc {α : Type} {l : List α} {i : Nat} (h : i < l.length) : l.take (i + 1) = l.take i ++ [l[i]] := by
  rw [List.take_add_one, List.getElem?_eq_getElem h]; rfl
set_option maxRecDepth 20000 in
theorem g77 (Gl : Granted) (s : ByteArray) (hs : s.size ≤ 1000000) : Fun Tryz.prog Gl 77 [vS s] [] (vS (bs (quoteB s.data.toList))) [] := by
  refine fun_of (T := T4) (n := 32) (rs := [.tmp 2]) Tryz.func77 (by kernel_rfl) rfl rfl rfl tok4 mixed (by simp) fun C hC => ?_
  obtain ⟨S, hS⟩ : ∃ S, s.data.toList = S := ⟨_, rfl⟩
  have hSl : S.length = s.size := by rw [← hS]; simp
  have k1 : (⟨#[34]⟩ : ByteArray) = bs [34] := rfl
  have k2 : (⟨#[92]⟩ : ByteArray) = bs [92] := rfl
  refine hC.go [] 60 ?_
  simp
  refine go_loop (ι := {i : Nat // i ≤ s.size}) (fun x => ⟨[(0, vS s), (3, vS (bs (34 :: esc (S.take x.1)))), (4, vI x.1)], []⟩)
    (fun x => s.size - x.1) ⟨0, by simp⟩ [] (by simp [esc, k1]) fun x ih => ?_
  obtain ⟨i, hi⟩ := x
  simp only at hi ih
  have hel := esc_len (S.take i)
  rw [List.length_take] at hel
  by_cases hlt : i < s.size
  · have hw := wr64 ((i : Int) + 1) (by omega)
    have hi' : i < S.length := by omega
    have hx := extract1 s i hlt
    have hz := byteAt_list s i hlt
    simp only [hS] at hx hz
    have htk := take_snoc hi'
    obtain ⟨c, hc⟩ : ∃ c, S[i] = c := ⟨_, rfl⟩
    rw [hc] at hx hz htk
    have hsz : ∀ l : Bs, (bs l).size = l.length := fun _ => rfl
    by_cases h1 : byteAt s i = 34
    · have hc1 : c = 34 := by rw [h1] at hz; exact UInt8.toNat_inj.1 (by have : (34 : UInt8).toNat = 34 := rfl; omega)
      have he : esc (S.take (i + 1)) = esc (S.take i) ++ [92, 34] := by rw [htk, esc_append, hc1]; rfl
      refine hC.go [] 60 ?_
      simp [hlt, h1, hw, k2, bs_app, hx, hsz]
      repeat (refine ⟨by omega, ?_⟩)
      exact go_to [] (ih ⟨i + 1, hlt⟩ (by simp; omega)) (by simp [hw, he, hc1])
    · by_cases h2 : byteAt s i = 92
      · have hc1 : c = 92 := by rw [h2] at hz; exact UInt8.toNat_inj.1 (by have : (92 : UInt8).toNat = 92 := rfl; omega)
        have he : esc (S.take (i + 1)) = esc (S.take i) ++ [92, 92] := by rw [htk, esc_append, hc1]; rfl
        refine hC.go [] 60 ?_
        simp [hlt, h2, hw, k2, bs_app, hx, hsz]
        repeat (refine ⟨by omega, ?_⟩)
        exact go_to [] (ih ⟨i + 1, hlt⟩ (by simp; omega)) (by simp [hw, he, hc1])
      · have hc1 : ¬ (c = 92 ∨ c = 34) := by
          rintro (rfl | rfl)
          · exact h2 hz
          · exact h1 hz
        have he : esc (S.take (i + 1)) = esc (S.take i) ++ [c] := by rw [htk, esc_append]; simp [esc, hc1]
        refine hC.go [] 60 ?_
        simp [hlt, h1, h2, hw, bs_app, hx, hsz]
        repeat (refine ⟨by omega, ?_⟩)
        exact go_to [] (ih ⟨i + 1, hlt⟩ (by simp; omega)) (by simp [hw, he])
  · have htk : S.take i = S := List.take_of_length_le (by omega)
    rw [htk]
    refine hC.go [] 60 ?_
    simp [hlt, k1, bs_app, hS, quoteB]
    have hsz : ∀ l : Bs, (bs l).size = l.length := fun _ => rfl
    simp only [hsz, List.length_cons, List.length_nil]
    rw [htk] at hel
    omega
theorem sepBy_snoc (s : UInt8) (l : List Bs) (x : Bs) : sepBy s (l ++ [x]) = if l = [] then x else sepBy s l ++ s :: x := by
  cases l with
  | nil => simp [sepBy, sepTail]
  | cons y r => simp [sepBy, sepTail]
theorem sum_take {α : Type} (f : α → Nat) (l : List α) (i : Nat) : ((l.take i).map f).sum ≤ (l.map f).sum := by
  conv => rhs; rw [← List.take_append_drop i l]
  rw [List.map_append, List.sum_append]
  omega
theorem names1_take (l : List ByteArray) (i : Nat) : names1 (l.take i) ≤ names1 l := sum_take _ l i
theorem attrs1_take (l : List (ByteArray × ByteArray)) (i : Nat) : attrs1 (l.take i) ≤ attrs1 l := sum_take _ l i
theorem sepN_len (s : UInt8) (l : List ByteArray) : (sepBy s (l.map (·.data.toList))).length ≤ names1 l := by
  have hs := sepBy_len s (l.map (·.data.toList))
  have hs2 : ((l.map (·.data.toList)).map fun x => 1 + x.length) = l.map fun s => 1 + s.size := by rw [List.map_map]; rfl
  rw [hs2] at hs
  exact hs
theorem sepA_len (l : List (ByteArray × ByteArray)) : (sepBy 32 (l.map attrB)).length ≤ 4 * attrs1 l := by
  have hs := sepBy_len 32 (l.map attrB)
  refine Nat.le_trans hs ?_
  induction l with
  | nil => simp
  | cons p l ih =>
    have e : p.1.data.toList.length = p.1.size := Array.length_toList
    have e2 : p.2.data.toList.length = p.2.size := Array.length_toList
    have h := esc_len p.2.data.toList
    have := ih (sepBy_len 32 (l.map attrB))
    simp only [List.map_cons, List.sum_cons, attrs1, attrB, quoteB, List.length_append, List.length_cons, List.length_nil] at this ⊢
    omega
theorem bsl (l : Bs) : (bs l).size = l.length := rfl
set_option maxRecDepth 20000 in
set_option maxHeartbeats 4000000 in
theorem g151 (Gl : Granted) (n : N) (hw : n.wt ≤ 100000) : Fun Tryz.prog Gl 151 [n.av] [] (vS (bs n.head)) [] := by
  obtain ⟨z1, z2, z3, z4, z5, z6, z7, z8⟩ := N.lim hw
  obtain ⟨y1, y2⟩ := wt_names hw
  have k0 : (⟨#[60]⟩ : ByteArray) = bs [60] := rfl
  have k1 : (⟨#[62]⟩ : ByteArray) = bs [62] := rfl
  have k2 : (⟨#[40]⟩ : ByteArray) = bs [40] := rfl
  have k3 : (⟨#[41]⟩ : ByteArray) = bs [41] := rfl
  have k4 : (⟨#[61]⟩ : ByteArray) = bs [61] := rfl
  have k5 : (⟨#[44]⟩ : ByteArray) = bs [44] := rfl
  have k6 : (⟨#[32]⟩ : ByteArray) = bs [32] := rfl
  have k7 : (⟨#[]⟩ : ByteArray) = bs [] := rfl
  refine fun_of (T := T4) (n := 74) (rs := [.tmp 2]) Tryz.func151 (by kernel_rfl) rfl rfl rfl tok4 mixed (by simp) fun C hC => ?_
  by_cases hk : n.kind = ⟨#[116, 101, 120, 116]⟩
  · have hh : n.head = headT n.marks := by rw [N.head, if_pos (show n.kind = textK from hk)]
    rw [hh] at hC
    refine hC.go [] 60 ?_
    simp [N.av, N.cells, hk]
    refine go_loop (ι := {i : Nat // i ≤ n.marks.length}) (fun x => ⟨[(1, .ptr (.loc 1) 0), (3, vS (bs (sepBy 44 ((n.marks.map (·.data.toList)).take x.1)))), (4, vI x.1)], [(.loc 1, some (.box 87 n.cells))]⟩)
      (fun x => n.marks.length - x.1) ⟨0, by simp⟩ [] (by simp [N.cells, hk, sepBy, k7]) fun x ih => ?_
    obtain ⟨i, hi⟩ := x
    simp only at hi ih
    have q1 := sepN_len 44 (n.marks.take i)
    have q2 := names1_take n.marks i
    rw [List.map_take] at q1
    by_cases hlt : i < n.marks.length
    · have hw := wr64 ((i : Int) + 1) (by omega)
      obtain ⟨M, hM⟩ : ∃ M, n.marks[i] = bs M := ⟨_, bs_of _⟩
      have htk : (n.marks.map (·.data.toList)).take (i + 1) = (n.marks.map (·.data.toList)).take i ++ [M] := by rw [take_row _ hlt, hM, bs_list]
      have hxl := z3 n.marks[i] (by simp)
      rw [hM, bsl] at hxl
      have hml : 0 < n.marks.length := by omega
      by_cases h0 : 0 < i
      · have hne : ¬ (n.marks.map (·.data.toList)).take i = [] := by
          intro e
          have := congrArg List.length e
          rw [List.length_take, List.length_map, List.length_nil] at this
          omega
        have hfin : sepBy 44 ((n.marks.map (·.data.toList)).take (i + 1)) = sepBy 44 ((n.marks.map (·.data.toList)).take i) ++ 44 :: M := by rw [htk, sepBy_snoc, if_neg hne]
        generalize sepBy 44 ((n.marks.map (·.data.toList)).take i) = P at hfin q1 ⊢
        refine hC.go [] 60 ?_
        simp [hlt, h0, N.cells, k5, bs_app, bsl, hM]
        repeat (refine ⟨by omega, ?_⟩)
        exact go_to [] (ih ⟨i + 1, hlt⟩ (by simp; omega)) (by simp [hw, N.cells, hfin])
      · have e0 : sepBy 44 ((n.marks.map (·.data.toList)).take i) = [] := by rw [show i = 0 by omega]; rfl
        have hfin : sepBy 44 ((n.marks.map (·.data.toList)).take (i + 1)) = M := by rw [htk, sepBy_snoc, if_pos (by rw [show i = 0 by omega]; rfl)]
        rw [e0]
        refine hC.go [] 60 ?_
        simp [hlt, h0, N.cells, bs_app, bsl, hM]
        repeat (refine ⟨by omega, ?_⟩)
        exact go_to [] (ih ⟨i + 1, hlt⟩ (by simp; omega)) (by simp [hw, N.cells, hfin])
    · have htk : (n.marks.map (·.data.toList)).take i = n.marks.map (·.data.toList) := List.take_of_length_le (by simp; omega)
      rw [htk] at q1 ⊢
      by_cases h0 : 0 < n.marks.length
      · have hne : ¬ n.marks = [] := fun e => by rw [e] at h0; simp at h0
        rw [headT, if_neg hne] at hC
        generalize sepBy 44 (n.marks.map (·.data.toList)) = P at hC q1 ⊢
        refine hC.go [] 60 ?_
        simp [hlt, h0, N.cells, k0, k1, bs_app, bsl]
        omega
      · have hne : n.marks = [] := List.eq_nil_of_length_eq_zero (by omega)
        rw [headT, if_pos hne] at hC
        have hi0 : ¬ (i : Int) < 0 := by omega
        refine hC.go [] 60 ?_
        simp [hne, N.cells, sepBy, hi0]
  · have hh : n.head = n.kind.data.toList ++ headA n.attrs := by rw [N.head, if_neg (show ¬ n.kind = textK from hk)]
    rw [hh] at hC
    obtain ⟨K, hK⟩ : ∃ K, n.kind = bs K := ⟨_, bs_of _⟩
    have hKl : K.length = n.kind.size := by rw [hK]; rfl
    have hK2 : n.kind.data.toList = K := by rw [hK]; exact bs_list K
    rw [hK2] at hC
    have hcl : n.cells = [vS (bs K), vS n.text, .pv (strs n.marks), .pv (pairs n.attrs), .pv (nodes n.kids)] := by rw [N.cells, hK]
    refine hC.go [] 60 ?_
    simp [N.av, N.cells, hk]
    refine go_loop (ι := {i : Nat // i ≤ n.attrs.length}) (fun x => ⟨[(1, .ptr (.loc 1) 0), (3, vS (bs (sepBy 32 ((n.attrs.map attrB).take x.1)))), (5, vI x.1)], [(.loc 1, some (.box 87 n.cells))]⟩)
      (fun x => n.attrs.length - x.1) ⟨0, by simp⟩ [] (by simp [N.cells, sepBy, k7]) fun x ih => ?_
    obtain ⟨i, hi⟩ := x
    simp only at hi ih
    rw [hcl] at ih ⊢
    have q1 := sepA_len (n.attrs.take i)
    have q2 := attrs1_take n.attrs i
    rw [List.map_take] at q1
    by_cases hlt : i < n.attrs.length
    · have hw := wr64 ((i : Int) + 1) (by omega)
      obtain ⟨p, hp⟩ : ∃ p, n.attrs[i] = p := ⟨_, rfl⟩
      obtain ⟨A, hA⟩ : ∃ A, p.1 = bs A := ⟨_, bs_of _⟩
      have hzz := z4 n.attrs[i] (by simp)
      rw [hp] at hzz
      have hq := g77 Gl p.2 (by omega)
      obtain ⟨Q, hQ⟩ : ∃ Q, quoteB p.2.data.toList = Q := ⟨_, rfl⟩
      have hQl : Q.length ≤ 2 * p.2.size + 2 := by
        have e : p.2.data.toList.length = p.2.size := Array.length_toList
        have := esc_len p.2.data.toList
        rw [← hQ]
        simp only [quoteB, List.length_append, List.length_cons, List.length_nil]
        omega
      have hAl : A.length = p.1.size := by rw [hA]; rfl
      have hB : attrB p = A ++ 61 :: Q := by rw [attrB, hQ, hA, bs_list]
      rw [hQ] at hq
      have htk : (n.attrs.map attrB).take (i + 1) = (n.attrs.map attrB).take i ++ [A ++ 61 :: Q] := by rw [take_row _ hlt, hp, hB]
      by_cases h0 : 0 < i
      · have hne : ¬ (n.attrs.map attrB).take i = [] := by
          intro e
          have := congrArg List.length e
          rw [List.length_take, List.length_map, List.length_nil] at this
          omega
        have hfin : sepBy 32 ((n.attrs.map attrB).take (i + 1)) = sepBy 32 ((n.attrs.map attrB).take i) ++ 32 :: (A ++ 61 :: Q) := by rw [htk, sepBy_snoc, if_neg hne]
        generalize sepBy 32 ((n.attrs.map attrB).take i) = P at hfin q1 ⊢
        refine hC.go [] 60 ?_
        simp [hlt, h0, k6, bs_app, bsl]
        repeat (refine ⟨by omega, ?_⟩)
        refine hC.drawn (by kernel_rfl) (by simp) ?_
        refine hC.go [] 60 ?_
        simp [hlt, hp, hA, k4, bs_app, bsl]
        repeat (refine ⟨by omega, ?_⟩)
        refine hC.call [] hq (by simp) ?_
        refine hC.go [] 60 ?_
        simp [bs_app, bsl]
        repeat (refine ⟨by omega, ?_⟩)
        exact go_to [] (ih ⟨i + 1, hlt⟩ (by simp; omega)) (by simp [hw, hfin])
      · have e0 : sepBy 32 ((n.attrs.map attrB).take i) = [] := by rw [show i = 0 by omega]; rfl
        have hfin : sepBy 32 ((n.attrs.map attrB).take (i + 1)) = A ++ 61 :: Q := by rw [htk, sepBy_snoc, if_pos (by rw [show i = 0 by omega]; rfl)]
        rw [e0]
        refine hC.go [] 60 ?_
        simp [hlt, h0]
        refine hC.drawn (by kernel_rfl) (by simp) ?_
        refine hC.go [] 60 ?_
        simp [hlt, hp, hA, k4, bs_app, bsl]
        repeat (refine ⟨by omega, ?_⟩)
        refine hC.call [] hq (by simp) ?_
        refine hC.go [] 60 ?_
        simp [bs_app, bsl]
        repeat (refine ⟨by omega, ?_⟩)
        exact go_to [] (ih ⟨i + 1, hlt⟩ (by simp; omega)) (by simp [hw, hfin])
    · have htk : (n.attrs.map attrB).take i = n.attrs.map attrB := List.take_of_length_le (by simp; omega)
      rw [htk] at q1 ⊢
      by_cases h0 : 0 < n.attrs.length
      · have hne : ¬ n.attrs = [] := fun e => by rw [e] at h0; simp at h0
        rw [headA, if_neg hne] at hC
        generalize sepBy 32 (n.attrs.map attrB) = P at hC q1 ⊢
        refine hC.go [] 60 ?_
        simp [hlt, h0, k2, k3, bs_app, bsl]
        omega
      · have hne : n.attrs = [] := List.eq_nil_of_length_eq_zero (by omega)
        rw [headA, if_pos hne] at hC
        have hi0 : ¬ (i : Int) < 0 := by omega
        refine hC.go [] 60 ?_
        simp [hne, sepBy, bs_app, bsl, hi0]
        omega
end Go.Proofs.D
