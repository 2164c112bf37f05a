/-
  THE ANSWER TO CHAPTER 8: is a schema right?
-/
import Derived.Test.YtdlnenkemolnlaaGreatDoorS15
import Derived.Test.YtdlnenkemolnlaaGreatDoorD36
import Derived.Test.YtdlnenkemolnlaaGreatDoorR7
import Derived.Test.YtdlnenkemolnlaaGreatDoorB6
import Derived.Test.YtdlnenkemolnlaaGreatDoorL0
set_option linter.unusedVariables false
set_option linter.unusedSimpArgs false
namespace Go.Proofs.D
open Go Go.Abs Go.RowKit
attribute [local simp] VC VCS stepVS stepTopS firstId memN bigB unmark markT mkOff calmP keepT boundB stepV stepTop stepReg stepOp stMove stPick stBin stUn stConv stBox stAlloc stLoad stStore stFieldAddr stField stExtract stNilCheck stMakeFunc stIndexAddr stIndex stLen
  stBuild placesOf fillA stBuildSlice sliceCells repL chunks allPV toPV drawOk drawOk.go mayMakeO mayMake1 disjoint pairOk Oper.apart Oper.looksAt Op.operands Call.operands Region.binds stAppend appBase appTail unName stSlice bndA
  LS.ev LS.get LS.blk LS.put LS.app LS.upd lkS lkH setS setH Nm.eqb guardOf nexts okPair dstOk AV.cellsOf takeAt putAt lkT sliceE fieldT intK isStrT isBoolT abin newOk LS.freshB LS.freshB.go LS.freshB.goH notIn AV.ments AV.ments.mentsL Blk.ments makes upsMents LS.start startL exitTo T T3 T4 outs callSideR callSideO callSideD upsR backO freshAll argB onlyIO List.map List.append List.nil_append List.cons_append Nat.blt
  conv convS convH srcs srcOf blkOk leA leA.leL Go.Abs.leB leP laid laidM isArg subH retP resAV resL res1 AV.frz AV.frz.frzL evL AV.ren AV.ren.renL Blk.ren renBs blksOf allSome nodupB onlyArgs blksMents callUps keyed inName inName.go backName callSide
theorem g22 (Gl : Granted) (s : Sc) (name : ByteArray) (hk : s.kinds.length ≤ 1000000) : Fun Tryz.prog Gl 22 [s.av, vS name] [] (vI (s.place name)) [] := by
  refine fun_of (T := T4) (n := 22) (rs := [.tmp 4]) Tryz.func22 (by kernel_rfl) rfl rfl rfl tok4 mixed (by simp) fun C hC => ?_
  refine hC.go [] 60 ?_
  simp [Sc.av, Sc.cells]
  refine go_loop (ι := {i : Nat // i ≤ s.kinds.length ∧ s.place name = firstAt (isKind name) (s.kinds.drop i) i}) (fun x => ⟨[(1, vS name), (2, .ptr (.loc 2) 0), (5, vI x.1)], [(.loc 2, some (.box 48 s.cells))]⟩) (fun x => s.kinds.length - x.1) ⟨0, by simp [Sc.place]⟩ [] (by simp [Sc.cells]) fun x ih => ?_
  obtain ⟨i, hi, hn⟩ := x
  simp only at hi hn ih
  by_cases hlt : i < s.kinds.length
  · have hw := wr64 ((i : Int) + 1) (by omega)
    rw [List.drop_eq_getElem_cons hlt] at hn
    simp only [firstAt] at hn
    by_cases hq : s.kinds[i].name = name
    · rw [if_pos (by simp [isKind, hq])] at hn
      refine hC.go [] 60 ?_
      simp [hlt, Sc.cells, Kd.pv_eq, E.pv_eq, hq, hn]
    · rw [if_neg (by simp [isKind, hq])] at hn
      refine hC.go [] 60 ?_
      simp [hlt, Sc.cells, Kd.pv_eq, E.pv_eq, hq]
      exact go_to [] (ih ⟨i + 1, hlt, hn⟩ (by simp; omega)) (by simp [hw, Sc.cells])
  · rw [List.drop_eq_nil_of_le (by omega)] at hn
    refine hC.go [] 60 ?_
    have hlt' : ¬ (i : Int) < s.kinds.length := by omega
    simp [hlt, Sc.cells, hn, firstAt]
set_option maxRecDepth 20000 in
set_option maxHeartbeats 4000000 in
theorem g60 (Gl : Granted) (l : List ByteArray) (hs : ∀ s ∈ l, s.size ≤ M47) : Fun Tryz.prog Gl 60 [.pv (strs l)] [] (vB (rise l)) [] := by
  refine fun_of (T := T4) (n := 32) (rs := [.tmp 2]) Tryz.func60 (by kernel_rfl) rfl rfl rfl tok4 mixed (by simp) fun C hC => ?_
  refine hC.go [] 60 ?_
  simp
  refine go_len 0 1 (l.map fun s => [.val (.string s)]) (by simp) fun hk => ?_
  rw [List.length_map] at hk
  refine go_loop (ι := {i : Nat // i ≤ l.length ∧ rise l = riseFrom (prevAt l i) (l.drop i)}) (fun x => ⟨[(0, .pv (strs l)), (3, vI x.1)], []⟩)
    (fun x => l.length - x.1) ⟨0, by simp [rise, prevAt]⟩ [] (by simp) fun x ih => ?_
  obtain ⟨i, hi, hn⟩ := x
  simp only at hi hn ih
  refine hC.go [] 60 ?_
  by_cases hlt : i < l.length
  · rw [List.drop_eq_getElem_cons hlt] at hn
    simp only [riseFrom] at hn
    have hw := wr64 ((i : Int) + 1) (by omega)
    simp [hlt]
    refine hC.drawn (by kernel_rfl) (by simp) ?_
    refine hC.go [] 60 ?_
    simp [hlt]
    refine hC.call [] (f100 Gl l[i] (by have := hs l[i] (by simp); simp only [M47] at this; omega)) (by simp) ?_
    refine hC.go [] 60 ?_
    cases hnm : isName l[i] with
    | false =>
      simp [hn, hnm]
    | true =>
      rw [hnm, Bool.true_and] at hn
      by_cases h0 : 0 < (i : Int)
      · have hw2 := wr64 ((i : Int) - 1) (by omega)
        have hi1 : i - 1 < l.length := by omega
        have h0n : 0 < i := by omega
        have e1 : ((i : Int) - 1) = ((i - 1 : Nat) : Int) := by omega
        have hp : prevAt l i = some l[i - 1] := by
          unfold prevAt
          rw [if_neg (by omega), List.getElem?_eq_getElem hi1]
        rw [hp] at hn
        simp only at hn
        rw [e1] at hw2
        cases hu : notUp l[i] l[i - 1] with
        | true =>
          rw [hu] at hn
          have hu' : (Op.bytesLess l[i].toList l[i - 1].toList || decide (l[i] = l[i - 1])) = true := hu
          simp [hlt, h0n, hw2, e1, hi1, hu', hn]
        | false =>
          rw [hu] at hn
          have hu' : (Op.bytesLess l[i].toList l[i - 1].toList || decide (l[i] = l[i - 1])) = false := hu
          simp [hlt, h0n, hw2, e1, hi1, hu']
          exact go_to [] (ih ⟨i + 1, hlt, by rw [prevAt_succ hlt, hn]; simp⟩ (by simp; omega)) (by simp [hw])
      · have hi0 : i = 0 := by omega
        subst hi0
        simp only [prevAt, if_true, Bool.true_and] at hn
        simp
        exact go_to [] (ih ⟨1, hlt, by rw [hn]; simp [prevAt, List.getElem?_eq_getElem hlt]⟩ (by simp; omega)) (by simp [wr64 1 (by omega)])
  · rw [List.drop_eq_nil_of_le (by omega)] at hn
    simp [hlt, hn, riseFrom]
theorem any_take_succ (l : List ByteArray) (q : ByteArray → Bool) (k : Nat) (h : k < l.length) : (l.take (k + 1)).any q = ((l.take k).any q || q l[k]) := by
  rw [List.take_add_one, List.getElem?_eq_getElem h, List.any_append]
  simp
set_option maxRecDepth 20000 in
set_option maxHeartbeats 4000000 in
theorem g103 (Gl : Granted) (d : Dc) (hs : ∀ s ∈ d.vals, s.size ≤ M47) : Fun Tryz.prog Gl 103 [.pv (strs d.vals)] [] (vB d.ok) [] := by
  obtain ⟨l, hl⟩ : ∃ l, d.vals = l := ⟨_, rfl⟩
  have hdok : d.ok = (valsFrom l 0 l && decide ((l.length : Int) ≤ 6)) := by rw [Dc.ok, valsOk, hl]
  rw [hl] at hs ⊢
  refine fun_of (T := T4) (n := 34) (rs := [.tmp 2]) Tryz.func103 (by kernel_rfl) rfl rfl rfl tok4 mixed (by simp) fun C hC => ?_
  refine hC.go [] 60 ?_
  simp
  refine go_len 0 1 (l.map fun s => [.val (.string s)]) (by simp) fun hk => ?_
  rw [List.length_map] at hk
  refine go_loop (ι := {i : Nat // i ≤ l.length ∧ valsFrom l 0 l = valsFrom l i (l.drop i)}) (fun x => ⟨[(0, .pv (strs l)), (3, vI x.1)], []⟩) (fun x => l.length - x.1) ⟨0, by simp⟩ [] (by simp) fun x ih => ?_
  obtain ⟨i, hi, hn⟩ := x
  simp only at hi hn ih
  by_cases hlt : i < l.length
  · have hw := wr64 ((i : Int) + 1) (by omega)
    rw [List.drop_eq_getElem_cons hlt] at hn
    simp only [valsFrom] at hn
    refine hC.go [] 60 ?_
    simp [hlt]
    refine go_loop (ι := {k : Nat // k ≤ i ∧ (l.take k).any (fun x => decide (l[i] = x)) = false}) (fun x => ⟨[(0, .pv (strs l)), (3, vI i), (4, vI x.1)], []⟩) (fun x => i - x.1) ⟨0, by simp⟩ [] (by simp) fun x ih2 => ?_
    obtain ⟨k, hk2, hany⟩ := x
    simp only at hk2 hany ih2
    by_cases hki : k < i
    · have hw2 := wr64 ((k : Int) + 1) (by omega)
      have hkl : k < l.length := by omega
      by_cases he : l[k] = l[i]
      · have hbad : (l.take i).any (fun x => decide (l[i] = x)) = true := by
          rw [List.any_eq_true]
          exact ⟨l[k], List.mem_take_iff_getElem.2 ⟨k, by omega, rfl⟩, by simp [he]⟩
        have : d.ok = false := by rw [hdok, hn, hbad]; simp
        refine hC.go [] 60 ?_
        simp [hki]
        refine hC.drawn (by kernel_rfl) (by simp) ?_
        refine hC.go [] 60 ?_
        simp [hkl, hlt, he, this]
      · refine hC.go [] 60 ?_
        simp [hki]
        refine hC.drawn (by kernel_rfl) (by simp) ?_
        refine hC.go [] 60 ?_
        simp [hkl, hlt, he]
        exact go_to [] (ih2 ⟨k + 1, hki, by rw [any_take_succ _ _ _ hkl, hany]; simpa using fun e => he e.symm⟩ (by simp; omega)) (by simp [hw2])
    · have hke : k = i := by omega
      subst hke
      rw [hany] at hn
      refine hC.go [] 60 ?_
      simp [hlt]
      refine hC.call [] (f100 Gl l[k] (by have := hs l[k] (by simp); simp only [M47] at this; omega)) (by simp) ?_
      refine hC.go [] 60 ?_
      cases hnm : isName l[k] with
      | false =>
        have : d.ok = false := by rw [hdok, hn, hnm]; simp
        simp [this]
      | true =>
        rw [hnm] at hn
        simp
        exact go_to [] (ih ⟨k + 1, hlt, by rw [hn]; simp⟩ (by simp; omega)) (by simp [hw])
  · rw [List.drop_eq_nil_of_le (by omega)] at hn
    simp only [valsFrom] at hn
    rw [hn, Bool.true_and] at hdok
    refine hC.go [] 60 ?_
    simp [hlt, hdok]
end Go.Proofs.D
/-
  THE ANSWER TO CHAPTER 8: is a kind right?
-/
set_option linter.unusedVariables false
set_option linter.unusedSimpArgs false
namespace Go.Proofs.D
open Go Go.Abs Go.RowKit
attribute [local simp] VC VCS stepVS stepTopS firstId memN bigB unmark markT mkOff calmP keepT boundB stepV stepTop stepReg stepOp stMove stPick stBin stUn stConv stBox stAlloc stLoad stStore stFieldAddr stField stExtract stNilCheck stMakeFunc stIndexAddr stIndex stLen
  stBuild placesOf fillA stBuildSlice sliceCells repL chunks allPV toPV drawOk drawOk.go mayMakeO mayMake1 disjoint pairOk Oper.apart Oper.looksAt Op.operands Call.operands Region.binds stAppend appBase appTail unName stSlice bndA
  LS.ev LS.get LS.blk LS.put LS.app LS.upd lkS lkH setS setH Nm.eqb guardOf nexts okPair dstOk AV.cellsOf takeAt putAt lkT sliceE fieldT intK isStrT isBoolT abin newOk LS.freshB LS.freshB.go LS.freshB.goH notIn AV.ments AV.ments.mentsL Blk.ments makes upsMents LS.start startL exitTo T T3 T4 outs callSideR callSideO callSideD upsR backO freshAll argB onlyIO List.map List.append List.nil_append List.cons_append Nat.blt
  conv convS convH srcs srcOf blkOk leA leA.leL Go.Abs.leB leP laid laidM isArg subH retP resAV resL res1 AV.frz AV.frz.frzL evL AV.ren AV.ren.renL Blk.ren renBs blksOf allSome nodupB onlyArgs blksMents callUps keyed inName inName.go backName callSide
theorem take_rowK {α β : Type} (f : α → β) {l : List α} {i : Nat} (h : i < l.length) : (l.map f).take (i + 1) = (l.map f).take i ++ [f l[i]] := by
  rw [List.take_add_one, List.getElem?_map, List.getElem?_eq_getElem h]
  rfl
set_option maxRecDepth 20000 in
set_option maxHeartbeats 4000000 in
theorem g59 (Gl : Granted) (k : Kd) (s : Sc) (hk : k.fit) (hsk : s.kinds.length ≤ 1000000) : Fun Tryz.prog Gl 59 [s.av, k.av] [] (vB (k.ok s)) [] := by
  obtain ⟨f1, f2, f3, f4, f5⟩ := hk
  have hM : M47 = 140737488355328 := rfl
  have hok : k.ok s = (k.attrs.all Dc.ok && (isName k.name && (rise (k.attrs.map (·.name)) && (k.content.right && !(k.content.names.any s.unknown))))) := rfl
  have hnames : k.content.names.any s.unknown = k.content.namesR.any s.unknown := by
    rw [Bool.eq_iff_iff, List.any_eq_true, List.any_eq_true]
    constructor
    · rintro ⟨x, h1, h2⟩; exact ⟨x, (namesR_mem _ x).2 ((names_mem _ x).1 h1), h2⟩
    · rintro ⟨x, h1, h2⟩; exact ⟨x, (names_mem _ x).2 ((namesR_mem _ x).1 h1), h2⟩
  rw [hnames] at hok
  refine fun_of (T := T4) (n := 71) (rs := [.tmp 4]) Tryz.func59 (by kernel_rfl) rfl rfl rfl tok4 mixed (by simp) fun C hC => ?_
  refine hC.go [] 60 ?_
  simp [Kd.av, Kd.cells, Sc.av, Sc.cells, E.cells]
  refine go_loop (ι := {i : Nat // i ≤ k.attrs.length ∧ k.attrs.all Dc.ok = (k.attrs.drop i).all Dc.ok}) (fun x => ⟨[(2, .ptr (.loc 2) 0), (3, .ptr (.loc 3) 0), (5, .own (.can 0)), (6, vI x.1)],
      [(.loc 2, some (.box 48 s.cells)), (.loc 3, some (.box 123 k.cells)), (.can 0, some (.row 9 1 ((k.attrs.map fun d => [PV.val (.string d.name)]).take x.1)))]⟩)
    (fun x => k.attrs.length - x.1) ⟨0, by simp⟩ [(.can 0, .nil)] (by simp [Kd.cells, E.cells, Sc.cells]) fun x ih => ?_
  obtain ⟨i, hi, hn⟩ := x
  simp only at hi hn ih
  by_cases hlt : i < k.attrs.length
  · have hw := wr64 ((i : Int) + 1) (by omega)
    obtain ⟨d, hd⟩ : ∃ d, k.attrs[i] = d := ⟨_, rfl⟩
    have hdm : d ∈ k.attrs := by rw [← hd]; simp
    rw [List.drop_eq_getElem_cons hlt, List.all_cons, hd] at hn
    have htk := take_rowK (fun d : Dc => [PV.val (.string d.name)]) hlt
    rw [hd] at htk
    refine hC.go [] 60 ?_
    simp [Kd.cells, E.cells, hlt, hd]
    refine ⟨by omega, ?_⟩
    simp [Kd.cells, E.cells, hlt, hd]
    refine hC.call [] (g103 Gl d (f5 d hdm).2) (by simp) ?_
    cases hdo : d.ok with
    | false =>
      have : k.ok s = false := by rw [hok, hn, hdo]; rfl
      refine hC.go [] 60 ?_
      simp [this]
    | true =>
      rw [hdo, Bool.true_and] at hn
      refine hC.go [] 60 ?_
      simp
      exact go_to [(.can 0, .nm (.loc 24))] (ih ⟨i + 1, hlt, hn⟩ (by simp; omega)) (by simp [hw, htk, Kd.cells, E.cells, Sc.cells])
  · rw [List.drop_eq_nil_of_le (by omega), List.all_nil] at hn
    rw [hn, Bool.true_and] at hok
    have hnm : (k.attrs.map fun d => [PV.val (.string d.name)]).take i = (k.attrs.map (·.name)).map fun s => [PV.val (.string s)] := by
      rw [List.take_of_length_le (by simp; omega), List.map_map]; rfl
    rw [hnm]
    have hlt' : ¬ (i : Int) < k.attrs.length := by omega
    refine hC.go [] 60 ?_
    simp [hlt, Kd.cells, E.cells]
    refine hC.call [] (f100 Gl k.name (by omega)) (by simp) ?_
    cases hnk : isName k.name with
    | false =>
      have : k.ok s = false := by rw [hok, hnk]; rfl
      refine hC.go [] 60 ?_
      simp [this, Kd.cells, E.cells]
    | true =>
      rw [hnk, Bool.true_and] at hok
      refine hC.go [] 60 ?_
      simp
      refine hC.call [.can 0] (fun_ownRow (a := []) (b := []) (e := 9) (by simp) rfl (g60 Gl (k.attrs.map (·.name)) fun s hs => by
        obtain ⟨d, hd, rfl⟩ := List.mem_map.1 hs
        exact (f5 d hd).1)) (by simp) ?_
      cases hr : rise (k.attrs.map (·.name)) with
      | false =>
        have : k.ok s = false := by rw [hok, hr]; rfl
        refine hC.go [] 60 ?_
        simp [this, Kd.cells, E.cells]
      | true =>
        rw [hr, Bool.true_and] at hok
        refine hC.go [] 60 ?_
        simp [Kd.cells, E.cells]
        refine hC.call [] (f56 Gl k.content f2) (by simp [E.av, E.cells]) ?_
        cases hrt : k.content.right with
        | false =>
          have : k.ok s = false := by rw [hok, hrt]; rfl
          refine hC.go [] 60 ?_
          simp [this]
        | true =>
          rw [hrt, Bool.true_and] at hok
          have hnl := namesR_len k.content
          refine hC.go [] 60 ?_
          simp [Kd.cells, E.cells]
          refine hC.call [] (g105 Gl k.content (by omega)) (by simp [E.av, E.cells]) ?_
          generalize k.content.namesR = m at hok hnl
          refine hC.go [] 60 ?_
          simp
          refine go_loop (ι := {j : Nat // j ≤ m.length ∧ m.any s.unknown = (m.drop j).any s.unknown}) (fun x => ⟨[(2, .ptr (.loc 2) 0), (7, .pv (strs m)), (8, vI x.1)], [(.loc 2, some (.box 48 s.cells))]⟩)
            (fun x => m.length - x.1) ⟨0, by simp⟩ [] (by simp [Sc.cells]) fun x ih2 => ?_
          obtain ⟨j, hj, hn2⟩ := x
          simp only at hj hn2 ih2
          by_cases hlj : j < m.length
          · have hw2 := wr64 ((j : Int) + 1) (by omega)
            rw [List.drop_eq_getElem_cons hlj, List.any_cons] at hn2
            have hun : s.unknown m[j] = (decide (s.place m[j] < 0) && !decide (m[j] = textK)) := rfl
            refine hC.go [] 60 ?_
            simp [hlj, Sc.cells]
            refine hC.drawn (by kernel_rfl) (by simp [Sc.cells]) ?_
            by_cases ht : m[j] = textK
            · have ht' : m[j] = ⟨#[116, 101, 120, 116]⟩ := ht
              have hu : s.unknown m[j] = false := by rw [hun]; simp [ht]
              rw [hu, Bool.false_or] at hn2
              refine hC.go [] 60 ?_
              simp [hlj, ht', Sc.cells]
              exact go_to [] (ih2 ⟨j + 1, hlj, hn2⟩ (by simp; omega)) (by simp [hw2, Sc.cells])
            · have ht' : ¬ m[j] = ⟨#[116, 101, 120, 116]⟩ := ht
              have hu : s.unknown m[j] = decide (s.place m[j] < 0) := by rw [hun]; simp [ht]
              rw [hu] at hn2
              refine hC.go [] 60 ?_
              simp [hlj, ht', Sc.cells]
              refine hC.call [] (g22 Gl s m[j] hsk) (by simp [Sc.av, Sc.cells]) ?_
              by_cases hp : s.place m[j] < 0
              · have : k.ok s = false := by rw [hok, hn2]; simp [hp]
                refine hC.go [] 60 ?_
                simp [hp, this, Sc.cells]
              · rw [decide_eq_false hp, Bool.false_or] at hn2
                refine hC.go [] 60 ?_
                simp [hp, Sc.cells]
                exact go_to [] (ih2 ⟨j + 1, hlj, hn2⟩ (by simp; omega)) (by simp [hw2, Sc.cells])
          · rw [List.drop_eq_nil_of_le (by omega), List.any_nil] at hn2
            have : k.ok s = true := by rw [hok, hn2]; rfl
            refine hC.go [] 60 ?_
            simp [hlj, this]
end Go.Proofs.D
/-
  THE ANSWER TO CHAPTER 8: is a schema right?
-/
set_option linter.unusedVariables false
set_option linter.unusedSimpArgs false
namespace Go.Proofs.D
open Go Go.Abs Go.RowKit
attribute [local simp] VC VCS stepVS stepTopS firstId memN bigB unmark markT mkOff calmP keepT boundB stepV stepTop stepReg stepOp stMove stPick stBin stUn stConv stBox stAlloc stLoad stStore stFieldAddr stField stExtract stNilCheck stMakeFunc stIndexAddr stIndex stLen
  stBuild placesOf fillA stBuildSlice sliceCells repL chunks allPV toPV drawOk drawOk.go mayMakeO mayMake1 disjoint pairOk Oper.apart Oper.looksAt Op.operands Call.operands Region.binds stAppend appBase appTail unName stSlice bndA
  LS.ev LS.get LS.blk LS.put LS.app LS.upd lkS lkH setS setH Nm.eqb guardOf nexts okPair dstOk AV.cellsOf takeAt putAt lkT sliceE fieldT intK isStrT isBoolT abin newOk LS.freshB LS.freshB.go LS.freshB.goH notIn AV.ments AV.ments.mentsL Blk.ments makes upsMents LS.start startL exitTo T T3 T4 outs callSideR callSideO callSideD upsR backO freshAll argB onlyIO List.map List.append List.nil_append List.cons_append Nat.blt
  conv convS convH srcs srcOf blkOk leA leA.leL Go.Abs.leB leP laid laidM isArg subH retP resAV resL res1 AV.frz AV.frz.frzL evL AV.ren AV.ren.renL Blk.ren renBs blksOf allSome nodupB onlyArgs blksMents callUps keyed inName inName.go backName callSide
set_option maxRecDepth 20000 in
set_option maxHeartbeats 4000000 in
theorem g24 (Gl : Granted) (s : Sc) (hf : s.fit) (hk : s.kinds.length ≤ 1000000) (hm : s.marks.length ≤ 1000000) : Fun Tryz.prog Gl 24 [s.av] [] (vB s.ok) [] := by
  have hsok : s.ok = (kindsFrom s 0 s.kinds && (decide (0 < (s.kinds.length : Int)) && (decide ((s.kinds.length : Int) ≤ 12) && (decide ((s.marks.length : Int) ≤ 12) && rise s.marks)))) := rfl
  refine fun_of (T := T4) (n := 52) (rs := [.tmp 2]) Tryz.func24 (by kernel_rfl) rfl rfl rfl tok4 mixed (by simp) fun C hC => ?_
  refine hC.go [] 60 ?_
  simp [Sc.av, Sc.cells]
  refine go_loop (ι := {i : Nat // i ≤ s.kinds.length ∧ kindsFrom s 0 s.kinds = kindsFrom s i (s.kinds.drop i)}) (fun x => ⟨[(1, .ptr (.loc 1) 0), (3, vI x.1)], [(.loc 1, some (.box 48 s.cells))]⟩)
    (fun x => s.kinds.length - x.1) ⟨0, by simp⟩ [] (by simp [Sc.cells]) fun x ih => ?_
  obtain ⟨i, hi, hn⟩ := x
  simp only at hi hn ih
  by_cases hlt : i < s.kinds.length
  · have hw := wr64 ((i : Int) + 1) (by omega)
    obtain ⟨k, hkk⟩ : ∃ k, s.kinds[i] = k := ⟨_, rfl⟩
    rw [List.drop_eq_getElem_cons hlt, hkk] at hn
    simp only [kindsFrom] at hn
    refine hC.go [] 60 ?_
    simp [hlt, Sc.cells]
    refine hC.drawn (by kernel_rfl) (by simp) ?_
    refine hC.go [] 60 ?_
    simp [hlt, hkk, Kd.pv_eq, E.pv_eq]
    refine hC.call [] (g59 Gl k s (hf.1 k (by rw [← hkk]; simp)) hk) (by simp [Sc.av, Sc.cells, Kd.av, Kd.cells, E.cells]) ?_
    cases hko : k.ok s with
    | false =>
      have : s.ok = false := by rw [hsok, hn, hko]; simp
      refine hC.go [] 60 ?_
      simp [this]
    | true =>
      rw [hko, Bool.and_true] at hn
      refine hC.go [] 60 ?_
      simp [hlt, hkk, Kd.pv_eq, E.pv_eq]
      refine hC.call [] (g22 Gl s k.name hk) (by simp [Sc.av, Sc.cells]) ?_
      by_cases hp : s.place k.name = (i : Int)
      · rw [decide_eq_true hp, Bool.true_and] at hn
        refine hC.go [] 60 ?_
        simp [hp]
        exact go_to [] (ih ⟨i + 1, hlt, hn⟩ (by simp; omega)) (by simp [hw, Sc.cells])
      · have : s.ok = false := by rw [hsok, hn]; simp [hp]
        refine hC.go [] 60 ?_
        simp [hp, this]
  · rw [List.drop_eq_nil_of_le (by omega)] at hn
    simp only [kindsFrom] at hn
    rw [hn, Bool.true_and] at hsok
    have hlt' : ¬ (i : Int) < s.kinds.length := by omega
    by_cases h1 : 1 ≤ (s.kinds.length : Int)
    · have h1' : 1 ≤ s.kinds.length := by omega
      have h1s : 0 < (s.kinds.length : Int) := by omega
      have h1t : 0 < s.kinds.length := by omega
      by_cases h2 : (s.kinds.length : Int) ≤ 12
      · have h2' : s.kinds.length ≤ 12 := by omega
        by_cases h3 : (s.marks.length : Int) ≤ 12
        · have h3' : s.marks.length ≤ 12 := by omega
          simp only [h1s, h2, h3, decide_true, Bool.true_and] at hsok
          refine hC.go [] 60 ?_
          simp [hlt, hlt', Sc.cells, h1, h2, h3, h1', h2', h3', h1s, h1t]
          refine hC.call [] (g60 Gl s.marks hf.2) (by simp [h1, h2, h3, h1', h2', h3', h1s, h1t]) ?_
          refine hC.go [] 60 ?_
          simp [hsok]
        · have h3' : ¬ s.marks.length ≤ 12 := by omega
          have : s.ok = false := by rw [hsok, decide_eq_false h3]; simp
          refine hC.go [] 60 ?_
          simp [hlt, hlt', Sc.cells, h1, h2, h3, h1', h2', h3', h1s, h1t, this]
      · have h2' : ¬ s.kinds.length ≤ 12 := by omega
        have : s.ok = false := by rw [hsok, decide_eq_false h2]; simp
        refine hC.go [] 60 ?_
        simp [hlt, hlt', Sc.cells, h1, h2, h1', h2', h1s, h1t, this]
    · have h1' : ¬ 1 ≤ s.kinds.length := by omega
      have h1s : ¬ 0 < (s.kinds.length : Int) := by omega
      have h1t : s.kinds.length = 0 := by omega
      have : s.ok = false := by rw [hsok, decide_eq_false h1s]; simp
      refine hC.go [] 60 ?_
      simp [hlt, hlt', Sc.cells, h1, h1', h1s, this]
end Go.Proofs.D
/-
  THE ANSWER TO CHAPTER 8: how a schema is written.
-/
set_option linter.unusedVariables false
set_option linter.unusedSimpArgs false
namespace Go.Proofs.D
open Go Go.Abs Go.RowKit
attribute [local simp] VC VCS stepVS stepTopS firstId memN bigB unmark markT mkOff calmP keepT boundB stepV stepTop stepReg stepOp stMove stPick stBin stUn stConv stBox stAlloc stLoad stStore stFieldAddr stField stExtract stNilCheck stMakeFunc stIndexAddr stIndex stLen
  stBuild placesOf fillA stBuildSlice sliceCells repL chunks allPV toPV drawOk drawOk.go mayMakeO mayMake1 disjoint pairOk Oper.apart Oper.looksAt Op.operands Call.operands Region.binds stAppend appBase appTail unName stSlice bndA
  LS.ev LS.get LS.blk LS.put LS.app LS.upd lkS lkH setS setH Nm.eqb guardOf nexts okPair dstOk AV.cellsOf takeAt putAt lkT sliceE fieldT intK isStrT isBoolT abin newOk LS.freshB LS.freshB.go LS.freshB.goH notIn AV.ments AV.ments.mentsL Blk.ments makes upsMents LS.start startL exitTo T T3 T4 outs callSideR callSideO callSideD upsR backO freshAll argB onlyIO List.map List.append List.nil_append List.cons_append Nat.blt
  conv convS convH srcs srcOf blkOk leA leA.leL Go.Abs.leB leP laid laidM isArg subH retP resAV resL res1 AV.frz AV.frz.frzL evL AV.ren AV.ren.renL Blk.ren renBs blksOf allSome nodupB onlyArgs blksMents callUps keyed inName inName.go backName callSide
set_option maxRecDepth 20000 in
set_option maxHeartbeats 8000000 in
theorem g20 (Gl : Granted) (s : Sc) (hf : s.fit) (hk1 : s.kinds.length ≤ 1000000) (hm1 : s.marks.length ≤ 1000000) (hw : s.ok = true → s.bytes.length ≤ 1000000000) : Fun Tryz.prog Gl 20 [s.av] [] (.tup [vS s.print.1, vI s.print.2]) [] := by
  have k0 : (⟨#[]⟩ : ByteArray) = bs [] := rfl
  have k1 : (⟨#[110, 111, 100, 101, 32]⟩ : ByteArray) = bs nodeS := rfl
  have k2 : (⟨#[124]⟩ : ByteArray) = bs [124] := rfl
  have k3 : (⟨#[42]⟩ : ByteArray) = bs [42] := rfl
  have k4 : (⟨#[32]⟩ : ByteArray) = bs [32] := rfl
  have k5 : (⟨#[61]⟩ : ByteArray) = bs [61] := rfl
  have k6 : (⟨#[58, 32]⟩ : ByteArray) = bs [58, 32] := rfl
  have k7 : (⟨#[10]⟩ : ByteArray) = bs [10] := rfl
  have k8 : (⟨#[109, 97, 114, 107, 32]⟩ : ByteArray) = bs markS := rfl
  have hns : nodeS.length = 5 := rfl
  have hms : markS.length = 5 := rfl
  refine fun_of (T := T4) (n := 108) (rs := [.tmp 2, .tmp 3]) Tryz.func20 (by kernel_rfl) rfl rfl rfl tok4 mixed (by simp) fun C hC => ?_
  refine hC.go [] 60 ?_
  simp [Sc.av, Sc.cells]
  refine hC.call [] (g24 Gl s hf hk1 hm1) (by simp [Sc.av, Sc.cells]) ?_
  cases hok : s.ok with
  | false =>
    have hp : s.print = (⟨#[]⟩, 2) := by rw [Sc.print, hok]; rfl
    rw [hp] at hC
    refine hC.go [] 60 ?_
    simp
  | true =>
    have hp : s.print = (bs s.bytes, 0) := by rw [Sc.print, hok]; rfl
    rw [hp] at hC
    have hlenB : (s.kinds.flatMap lineK).length + (s.marks.flatMap lineM).length ≤ 1000000000 := by
      rw [← List.length_append]; exact hw hok
    refine hC.go [] 60 ?_
    simp
    refine go_loop (ι := {i : Nat // i ≤ s.kinds.length}) (fun x => ⟨[(1, .ptr (.loc 1) 0), (4, vS (bs ((s.kinds.take x.1).flatMap lineK))), (5, vI x.1)], [(.loc 1, some (.box 48 s.cells))]⟩)
      (fun x => s.kinds.length - x.1) ⟨0, by simp⟩ [] (by simp [Sc.cells, k0]) fun x ih => ?_
    obtain ⟨i, hi⟩ := x
    simp only at hi ih
    by_cases hlt : i < s.kinds.length
    · have hw1 := wr64 ((i : Int) + 1) (by omega)
      obtain ⟨k, hk⟩ : ∃ k, s.kinds[i] = k := ⟨_, rfl⟩
      have hkm : k ∈ s.kinds := by rw [← hk]; simp
      have hkf := hf.1 k hkm
      obtain ⟨f1, f2, f3, f4, f5⟩ := hkf
      have hkok := Sc.ok_kind hok hkm
      have hle := flat_le lineK hlt
      have htk := flat_take lineK hlt
      rw [hk] at hle htk
      have hlk : (lineK k).length = (headB k).length + ((k.attrs.flatMap declB).length + (k.content.bytes.length + 3)) := by
        simp only [lineK, List.length_append, List.length_cons, List.length_nil]
      obtain ⟨K, hK⟩ : ∃ K, k.name = bs K := ⟨_, bs_of _⟩
      have hKl : k.name.data.toList = K := by rw [hK]; exact bs_list K
      have hhd : nodeS ++ K = headB k := by rw [headB, hKl]
      have hhl : nodeS.length + K.length = (headB k).length := by rw [← hhd, List.length_append]
      generalize hP : (s.kinds.take i).flatMap lineK = P at hle htk
      refine hC.go [] 60 ?_
      simp [hlt, Sc.cells, Kd.pv_eq, E.pv_eq, hk, hP, hK, k1, bs_app, bsl]
      repeat (refine ⟨by omega, ?_⟩)
      rw [hhd]
      refine go_loop (ι := {j : Nat // j ≤ k.attrs.length}) (fun x => ⟨[(1, .ptr (.loc 1) 0), (4, vS (bs (P ++ headB k ++ (k.attrs.take x.1).flatMap declB))), (5, vI i), (6, .ptr (.loc 6) 0), (7, vI x.1)],
          [(.loc 1, some (.box 48 s.cells)), (.loc 6, some (.box 123 k.cells))]⟩)
        (fun x => k.attrs.length - x.1) ⟨0, by simp⟩ [] (by simp [Sc.cells, Kd.cells, E.cells, hK]) fun x ih2 => ?_
      obtain ⟨j, hj⟩ := x
      simp only at hj ih2
      by_cases hlj : j < k.attrs.length
      · have hw2 := wr64 ((j : Int) + 1) (by omega)
        obtain ⟨d, hd⟩ : ∃ d, k.attrs[j] = d := ⟨_, rfl⟩
        have hdm : d ∈ k.attrs := by rw [← hd]; simp
        have hdl := Dc.ok_len (Kd.ok_attr hkok hdm)
        have hle2 := flat_le declB hlj
        have htk2 := flat_take declB hlj
        rw [hd] at hle2 htk2
        generalize (k.attrs.take j).flatMap declB = Q at hle2 htk2 ⊢
        obtain ⟨D, hD⟩ : ∃ D, d.name = bs D := ⟨_, bs_of _⟩
        have hDl : d.name.data.toList = D := by rw [hD]; exact bs_list D
        have hld : (declB d).length = D.length + 2 + (valsB d.vals).length := by
          simp [declB, hDl]; omega
        have hjl : (joinV d.vals).length ≤ (valsB d.vals).length := by
          unfold valsB
          split
          · rename_i h; rw [h]; simp
          · exact Nat.le_refl _
        refine hC.go [] 60 ?_
        simp [hlj, hd, Sc.cells, Kd.cells, E.cells]
        refine go_loop (ι := {n : Nat // n ≤ d.vals.length}) (fun x => ⟨[(1, .ptr (.loc 1) 0), (4, vS (bs (P ++ headB k ++ Q))), (5, vI i), (6, .ptr (.loc 6) 0), (7, vI j), (8, vS (bs (sepBy 124 ((d.vals.map (·.data.toList)).take x.1)))), (9, vI x.1)],
            [(.loc 1, some (.box 48 s.cells)), (.loc 6, some (.box 123 k.cells))]⟩)
          (fun x => d.vals.length - x.1) ⟨0, by simp⟩ [] (by simp [Sc.cells, Kd.cells, E.cells, k0, sepBy]) fun x ih3 => ?_
        obtain ⟨n, hn⟩ := x
        simp only at hn ih3
        have hst : (sepBy 124 ((d.vals.map (·.data.toList)).take n)).length ≤ (joinV d.vals).length := sepBy_take 124 _ n
        by_cases hln : n < d.vals.length
        · have hw3 := wr64 ((n : Int) + 1) (by omega)
          obtain ⟨M, hM⟩ : ∃ M, d.vals[n] = bs M := ⟨_, bs_of _⟩
          have htk3 : (d.vals.map (·.data.toList)).take (n + 1) = (d.vals.map (·.data.toList)).take n ++ [M] := by rw [take_row _ hln, hM, bs_list]
          have hst2 : (sepBy 124 ((d.vals.map (·.data.toList)).take (n + 1))).length ≤ (joinV d.vals).length := sepBy_take 124 _ (n + 1)
          by_cases h0 : 0 < n
          · have hne : ¬ (d.vals.map (·.data.toList)).take n = [] := by
              intro e
              have := congrArg List.length e
              rw [List.length_take, List.length_map, List.length_nil] at this
              omega
            have hfin : sepBy 124 ((d.vals.map (·.data.toList)).take (n + 1)) = sepBy 124 ((d.vals.map (·.data.toList)).take n) ++ 124 :: M := by rw [htk3, sepBy_snoc, if_neg hne]
            have hfl := congrArg List.length hfin
            rw [List.length_append, List.length_cons] at hfl
            generalize sepBy 124 ((d.vals.map (·.data.toList)).take n) = V at hfin hst hfl ⊢
            refine hC.go [] 60 ?_
            simp [hln, h0, hd, hlj, Kd.cells, E.cells, k2, bs_app, bsl, hM]
            repeat (refine ⟨by omega, ?_⟩)
            exact go_to [] (ih3 ⟨n + 1, hln⟩ (by simp; omega)) (by simp [hw3, Sc.cells, Kd.cells, E.cells, hfin])
          · have e0 : sepBy 124 ((d.vals.map (·.data.toList)).take n) = [] := by rw [show n = 0 by omega]; rfl
            have hfin : sepBy 124 ((d.vals.map (·.data.toList)).take (n + 1)) = M := by rw [htk3, sepBy_snoc, if_pos (by rw [show n = 0 by omega]; rfl)]
            rw [hfin] at hst2
            rw [e0]
            refine hC.go [] 60 ?_
            simp [hln, h0, hd, hlj, Kd.cells, E.cells, bs_app, bsl, hM]
            repeat (refine ⟨by omega, ?_⟩)
            exact go_to [] (ih3 ⟨n + 1, hln⟩ (by simp; omega)) (by simp [hw3, Sc.cells, Kd.cells, E.cells, hfin])
        · have htn : (d.vals.map (·.data.toList)).take n = d.vals.map (·.data.toList) := List.take_of_length_le (by simp; omega)
          have hjv : sepBy 124 (d.vals.map (·.data.toList)) = joinV d.vals := rfl
          rw [htn, hjv]
          by_cases he : joinV d.vals = []
          · have hv : valsB d.vals = [42] := by rw [valsB, if_pos he]
            have hdb : declB d = 32 :: (D ++ 61 :: [42]) := by rw [declB, hDl, hv]; rfl
            have hb0 : bs (joinV d.vals) = bs [] := by rw [he]
            rw [hb0]
            have he0 : (bs ([] : Bs) = ⟨#[]⟩) = True := eq_true rfl
            refine hC.go [] 60 ?_
            simp [hln, hd, hlj, Kd.cells, E.cells, he0, k3, k4, k5, hD, bs_app, bsl]
            repeat (refine ⟨by omega, ?_⟩)
            exact go_to [] (ih2 ⟨j + 1, hlj⟩ (by simp; omega)) (by simp [hw2, Sc.cells, Kd.cells, E.cells, htk2, hdb, List.append_assoc])
          · have hv : valsB d.vals = joinV d.vals := by rw [valsB, if_neg he]
            have hdb : declB d = 32 :: (D ++ 61 :: joinV d.vals) := by rw [declB, hDl, hv]; rfl
            have he0 : ¬ bs (joinV d.vals) = ⟨#[]⟩ := fun h => he (by rw [← bs_list (joinV d.vals), h])
            generalize joinV d.vals = V at hdb he0 hjl ⊢
            refine hC.go [] 60 ?_
            simp [hln, hd, hlj, Kd.cells, E.cells, he0, k4, k5, hD, bs_app, bsl]
            repeat (refine ⟨by omega, ?_⟩)
            exact go_to [] (ih2 ⟨j + 1, hlj⟩ (by simp; omega)) (by simp [hw2, Sc.cells, Kd.cells, E.cells, htk2, hdb, List.append_assoc])
      · have htj : k.attrs.take j = k.attrs := List.take_of_length_le (by omega)
        have hcb : k.content.print.1 = bs k.content.bytes := bs_of _
        have htk' : (s.kinds.take (i + 1)).flatMap lineK = P ++ (headB k ++ (k.attrs.flatMap declB ++ (58 :: 32 :: k.content.bytes ++ [10]))) := by rw [htk]; rfl
        have hlj' : ¬ (j : Int) < k.attrs.length := by omega
        rw [htj]
        generalize k.attrs.flatMap declB = Q at hlk htk' ⊢
        refine hC.go [] 60 ?_
        simp [hlj, Sc.cells, Kd.cells, E.cells]
        refine hC.call [] (f30 Gl k.content f2 (by omega)) (by simp [E.av, E.cells]) ?_
        rw [hcb]
        refine hC.go [] 60 ?_
        simp [k6, k7, bs_app, bsl]
        repeat (refine ⟨by omega, ?_⟩)
        exact go_to [] (ih ⟨i + 1, hlt⟩ (by simp; omega)) (by simp [hw1, Sc.cells, htk', List.append_assoc])
    · have hti : s.kinds.take i = s.kinds := List.take_of_length_le (by omega)
      rw [hti]
      have hsb : s.bytes = s.kinds.flatMap lineK ++ s.marks.flatMap lineM := rfl
      generalize s.kinds.flatMap lineK = K at hlenB hsb ⊢
      have hlt' : ¬ (i : Int) < s.kinds.length := by omega
      refine hC.go [] 60 ?_
      simp [hlt, Sc.cells]
      refine go_loop (ι := {j : Nat // j ≤ s.marks.length}) (fun x => ⟨[(1, .ptr (.loc 1) 0), (4, vS (bs (K ++ (s.marks.take x.1).flatMap lineM))), (12, vI x.1)], [(.loc 1, some (.box 48 s.cells))]⟩)
        (fun x => s.marks.length - x.1) ⟨0, by simp⟩ [] (by simp [Sc.cells]) fun x ih2 => ?_
      obtain ⟨j, hj⟩ := x
      simp only at hj ih2
      by_cases hlj : j < s.marks.length
      · have hw2 := wr64 ((j : Int) + 1) (by omega)
        obtain ⟨M, hM⟩ : ∃ M, s.marks[j] = bs M := ⟨_, bs_of _⟩
        have hle2 := flat_le lineM hlj
        have htk2 := flat_take lineM hlj
        have hlm : lineM s.marks[j] = markS ++ M ++ [10] := by rw [lineM, hM, bs_list]
        rw [hlm] at hle2 htk2
        simp only [List.length_append, List.length_cons, List.length_nil] at hle2
        generalize (s.marks.take j).flatMap lineM = Q at hle2 htk2 ⊢
        refine hC.go [] 60 ?_
        simp [hlj, Sc.cells, hM, k7, k8, bs_app, bsl]
        repeat (refine ⟨by omega, ?_⟩)
        exact go_to [] (ih2 ⟨j + 1, hlj⟩ (by simp; omega)) (by simp [hw2, Sc.cells, htk2, List.append_assoc])
      · have htj : s.marks.take j = s.marks := List.take_of_length_le (by omega)
        have hlj' : ¬ (j : Int) < s.marks.length := by omega
        rw [htj, ← hsb]
        refine hC.go [] 60 ?_
        simp [hlj, Sc.cells]
end Go.Proofs.D
/-
  SCHEMAS: as the answer has them; can one be gone through? Defaults, and what is taken.
-/
set_option linter.unusedVariables false
set_option linter.unusedSimpArgs false
namespace Go.Proofs.D
open Go Go.Abs Go.RowKit
attribute [local simp] VC VCS stepVS stepTopS firstId memN bigB unmark markT mkOff calmP keepT boundB stepV stepTop stepReg stepOp stMove stPick stBin stUn stConv stBox stAlloc stLoad stStore stFieldAddr stField stExtract stNilCheck stMakeFunc stIndexAddr stIndex stLen
  stBuild placesOf fillA stBuildSlice sliceCells repL chunks allPV toPV drawOk drawOk.go mayMakeO mayMake1 disjoint pairOk Oper.apart Oper.looksAt Op.operands Call.operands Region.binds stAppend appBase appTail unName stSlice bndA
  LS.ev LS.get LS.blk LS.put LS.app LS.upd lkS lkH setS setH Nm.eqb guardOf nexts okPair dstOk AV.cellsOf takeAt putAt lkT sliceE fieldT intK isStrT isBoolT abin newOk LS.freshB LS.freshB.go LS.freshB.goH notIn AV.ments AV.ments.mentsL Blk.ments makes upsMents LS.start startL exitTo T T3 T4 outs callSideR callSideO callSideD upsR backO freshAll argB onlyIO List.map List.append List.nil_append List.cons_append Nat.blt
  conv convS convH srcs srcOf blkOk leA leA.leL Go.Abs.leB leP laid laidM isArg subH retP resAV resL res1 AV.frz AV.frz.frzL evL AV.ren AV.ren.renL Blk.ren renBs blksOf allSome nodupB onlyArgs blksMents callUps keyed inName inName.go backName callSide
abbrev zeroK : List AV := [vS ⟨#[]⟩, .pv (.val (.int .u8 0)), vS ⟨#[]⟩, .pv (.nilS 3), .pv (.nilS 2)]
set_option maxRecDepth 20000 in
set_option maxHeartbeats 4000000 in
theorem g53 (Gl : Granted) (k : Kd) (hk : k.content.cnt ≤ 1000000) (ha : k.attrs.length ≤ 1000000) : Fun Tryz.prog Gl 53 [k.av] [] k.av [] := by
  refine fun_of (T := T4) (n := 37) (rs := [.cell 2 123]) Tryz.func53 (by kernel_rfl) rfl rfl rfl tok4 mixed (by simp) fun C hC => ?_
  refine hC.go [] 60 ?_
  simp [Kd.av, Kd.cells, E.cells]
  refine hC.drawn (by kernel_rfl) (by simp) ?_
  refine hC.go [] 60 ?_
  simp
  refine hC.call [] (asE Gl k.content hk) (by simp [E.av, E.cells]) ?_
  refine hC.go [] 60 ?_
  simp [E.av, E.cells]
  refine go_loop (ι := {i : Nat // i ≤ k.attrs.length}) (fun x => ⟨[(1, .ptr (.loc 1) 0), (2, .ptr (.loc 2) 0), (3, .ptr (.loc 3) 0), (4, vI x.1)], [(.loc 1, some (.box 57 k.cells)), (.loc 2, some (.box 123 zeroK)), (.loc 3, some (.box 123 (vS k.name :: (k.content.cells ++ [.own (.can 0)])))), (.can 0, some (.row 61 2 ((k.attrs.map Dc.pv).take x.1)))]⟩)
    (fun x => k.attrs.length - x.1) ⟨0, by simp⟩ [(.can 0, .nil)] (by simp [Kd.cells, E.cells]) fun x ih => ?_
  obtain ⟨i, hi⟩ := x
  simp only at hi ih
  by_cases hlt : i < k.attrs.length
  · have hw := wr64 ((i : Int) + 1) (by omega)
    have htk := take_row Dc.pv hlt
    refine hC.go [] 60 ?_
    simp [Kd.cells, E.cells, hlt]
    refine hC.drawn (by kernel_rfl) (by simp) ?_
    refine hC.go [] 60 ?_
    simp [hlt]
    refine ⟨by omega, ?_⟩
    exact go_to [(.can 0, .nm (.loc 34))] (ih ⟨i + 1, hlt⟩ (by simp; omega)) (by simp [hw, Kd.cells, E.cells, htk])
  · have hlt' : ¬ (i : Int) < k.attrs.length := by omega
    have htk : (k.attrs.map Dc.pv).take i = k.attrs.map Dc.pv := List.take_of_length_le (by simp; omega)
    rw [htk]
    refine hC.til [6] [] 60 ?_
    simp [Kd.cells, E.cells, hlt]
    refine go_to (M := ⟨[(2, .ptr (.loc 2) 0), (3, .ptr (.loc 3) 0)], [(.loc 2, some (.box 123 zeroK)), (.loc 3, some (.box 123 k.cells))]⟩) [] (hC.go [] 60 ?_) (by simp [Kd.cells, E.cells])
    simp [Kd.av, Kd.cells, E.cells]
set_option maxRecDepth 20000 in
set_option maxHeartbeats 4000000 in
theorem g18 (Gl : Granted) (s : Sc) (hk : ∀ k ∈ s.kinds, k.content.cnt ≤ 1000000 ∧ k.attrs.length ≤ 1000000) (hl : s.kinds.length ≤ 1000000) : Fun Tryz.prog Gl 18 [s.av] [] s.av [] := by
  refine fun_of (T := T4) (n := 27) (rs := [.cell 2 48]) Tryz.func18 (by kernel_rfl) rfl rfl rfl tok4 mixed (by simp) fun C hC => ?_
  refine hC.go [] 60 ?_
  simp [Sc.av, Sc.cells]
  refine go_loop (ι := {i : Nat // i ≤ s.kinds.length}) (fun x => ⟨[(1, .ptr (.loc 1) 0), (2, .ptr (.loc 2) 0), (3, .ptr (.loc 3) 0), (4, vI x.1)], [(.loc 1, some (.box 42 s.cells)), (.loc 2, some (.box 48 [.pv (.nilS 5), .pv (.nilS 1)])), (.loc 3, some (.box 48 [.own (.can 0), .pv (strs s.marks)])), (.can 0, some (.row 123 5 ((s.kinds.map Kd.pv).take x.1)))]⟩)
    (fun x => s.kinds.length - x.1) ⟨0, by simp⟩ [(.can 0, .nil)] (by simp [Sc.cells]) fun x ih => ?_
  obtain ⟨i, hi⟩ := x
  simp only at hi ih
  by_cases hlt : i < s.kinds.length
  · have hw := wr64 ((i : Int) + 1) (by omega)
    have htk := take_row Kd.pv hlt
    obtain ⟨k, hkk⟩ : ∃ k, s.kinds[i] = k := ⟨_, rfl⟩
    obtain ⟨q1, q2⟩ := hk k (by rw [← hkk]; simp)
    rw [hkk] at htk
    refine hC.go [] 60 ?_
    simp [Sc.cells, hlt]
    refine hC.drawn (by kernel_rfl) (by simp) ?_
    refine hC.go [] 60 ?_
    simp [hlt, hkk, Kd.pv_eq, E.pv_eq]
    refine hC.call [] (g53 Gl k q1 q2) (by simp [Kd.av, Kd.cells, E.cells]) ?_
    refine hC.go [] 60 ?_
    simp [Kd.av, Kd.cells, E.cells]
    refine ⟨by omega, ?_⟩
    exact go_to [(.can 0, .nm (.loc 24))] (ih ⟨i + 1, hlt⟩ (by simp; omega)) (by simp [hw, Sc.cells, htk, Kd.pv_eq, E.pv_eq])
  · have hlt' : ¬ (i : Int) < s.kinds.length := by omega
    have htk : (s.kinds.map Kd.pv).take i = s.kinds.map Kd.pv := List.take_of_length_le (by simp; omega)
    rw [htk]
    refine hC.til [6] [] 60 ?_
    simp [Sc.cells, hlt]
    refine go_to (M := ⟨[(2, .ptr (.loc 2) 0), (3, .ptr (.loc 3) 0)], [(.loc 2, some (.box 48 [.pv (.nilS 5), .pv (.nilS 1)])), (.loc 3, some (.box 48 s.cells))]⟩) [] (hC.go [] 60 ?_) (by simp [Sc.cells])
    simp [Sc.av, Sc.cells]
set_option maxRecDepth 20000 in
set_option maxHeartbeats 4000000 in
theorem g17 (Gl : Granted) (s : Sc) (hw : s.wide) : Fun Tryz.prog Gl 17 [s.av] [] (vB s.lite) [] := by
  have hM : M47 = 140737488355328 := rfl
  obtain ⟨w1, w2, w3, w4⟩ := hw
  have hli : s.lite = (decide (0 < kindsGo s.kinds 600) && (decide ((s.kinds.length : Int) < 40) && decide ((s.marks.length : Int) < 40))) := rfl
  refine fun_of (T := T4) (n := 84) (rs := [.tmp 2]) Tryz.func17 (by kernel_rfl) rfl rfl rfl tok4 mixed (by simp) fun C hC => ?_
  refine hC.go [] 60 ?_
  simp [Sc.av, Sc.cells]
  refine go_loop (ι := {x : Nat × Int // x.1 ≤ s.kinds.length ∧ kindsGo s.kinds 600 = kindsGo (s.kinds.drop x.1) x.2}) (fun x => ⟨[(1, .ptr (.loc 1) 0), (3, vI x.1.2), (4, vI x.1.1)], [(.loc 1, some (.box 42 s.cells))]⟩)
    (fun x => s.kinds.length - x.1.1) ⟨(0, 600), by simp⟩ [] (by simp [Sc.cells]) fun x ih => ?_
  obtain ⟨⟨i, left⟩, hi, hn⟩ := x
  simp only at hi hn ih
  have fin : kindsGo s.kinds 600 = left → ∀ L' : Int, L' = left → s.lite = (decide (0 < left) && (decide ((s.kinds.length : Int) < 40) && decide ((s.marks.length : Int) < 40))) := fun h _ _ => by rw [hli, h]
  by_cases hlt : i < s.kinds.length
  · have hw1 := wr64 ((i : Int) + 1) (by omega)
    obtain ⟨k, hkk⟩ : ∃ k, s.kinds[i] = k := ⟨_, rfl⟩
    rw [List.drop_eq_getElem_cons hlt, hkk] at hn
    simp only [kindsGo] at hn
    by_cases h0 : 0 < left
    · rw [if_pos h0] at hn
      obtain ⟨l0, hl0⟩ : ∃ l0, wr .i64 (wr .i64 (k.content.light left - k.attrs.length) - wr .i64 ((k.name.size : Int) / 20)) = l0 := ⟨_, rfl⟩
      have hkg : kindGo k left = valsGo k.attrs l0 := by unfold kindGo; rw [hl0]
      rw [hkg] at hn
      obtain ⟨f1, f2, f3, f4⟩ := w1 k (by rw [← hkk]; simp)
      refine hC.go [] 60 ?_
      simp [Sc.cells, hlt, h0]
      refine hC.drawn (by kernel_rfl) (by simp) ?_
      refine hC.go [] 60 ?_
      simp [hlt, hkk, Kd.pv_eq, E.pv_eq]
      refine hC.call [] (f16 Gl k.content left) (by simp [E.av, E.cells]) ?_
      refine hC.go [] 60 ?_
      simp [hlt, hkk, Kd.pv_eq, E.pv_eq, hl0]
      refine go_loop (ι := {x : Nat × Int // x.1 ≤ k.attrs.length ∧ valsGo k.attrs l0 = valsGo (k.attrs.drop x.1) x.2}) (fun x => ⟨[(1, .ptr (.loc 1) 0), (3, vI x.1.2), (4, vI i), (5, vI x.1.1)], [(.loc 1, some (.box 42 s.cells))]⟩)
        (fun x => k.attrs.length - x.1.1) ⟨(0, l0), by simp⟩ [] (by simp [Sc.cells]) fun x ih2 => ?_
      obtain ⟨⟨j, l1⟩, hj, hn2⟩ := x
      simp only at hj hn2 ih2
      by_cases hlj : j < k.attrs.length
      · have hw2 := wr64 ((j : Int) + 1) (by omega)
        rw [List.drop_eq_getElem_cons hlj] at hn2
        simp only [valsGo] at hn2
        by_cases h1 : 0 < l1
        · rw [if_pos h1] at hn2
          refine hC.go [] 60 ?_
          simp [Sc.cells, hlt, hkk, Kd.pv_eq, E.pv_eq, hlj, h1]
          exact go_to [] (ih2 ⟨(j + 1, _), hlj, hn2⟩ (by simp; omega)) (by simp [hw2, Sc.cells])
        · rw [if_neg h1] at hn2
          refine hC.go [] 60 ?_
          simp [Sc.cells, hlt, hkk, Kd.pv_eq, E.pv_eq, hlj, h1]
          exact go_to [] (ih ⟨(i + 1, l1), hlt, by rw [hn, hn2]⟩ (by simp; omega)) (by simp [hw1, Sc.cells])
      · rw [List.drop_eq_nil_of_le (by omega)] at hn2
        simp only [valsGo] at hn2
        have hlj' : ¬ (j : Int) < k.attrs.length := by omega
        refine hC.go [] 60 ?_
        simp [Sc.cells, hlt, hkk, Kd.pv_eq, E.pv_eq, hlj]
        exact go_to [] (ih ⟨(i + 1, l1), hlt, by rw [hn, hn2]⟩ (by simp; omega)) (by simp [hw1, Sc.cells])
    · rw [if_neg h0] at hn
      have hf := fin hn left rfl
      rw [decide_eq_false h0, Bool.false_and] at hf
      refine hC.go [] 60 ?_
      simp [Sc.cells, hlt, h0, hf]
  · rw [List.drop_eq_nil_of_le (by omega)] at hn
    simp only [kindsGo] at hn
    have hf := fin hn left rfl
    have hlt' : ¬ (i : Int) < s.kinds.length := by omega
    by_cases h0 : 0 < left
    · by_cases h1 : (s.kinds.length : Int) < 40
      · have h1' : s.kinds.length < 40 := by omega
        rw [decide_eq_true h0, decide_eq_true h1, Bool.true_and, Bool.true_and] at hf
        refine hC.go [] 60 ?_
        simp [Sc.cells, hlt, h0, h1, h1', hf]
      · have h1' : ¬ s.kinds.length < 40 := by omega
        rw [decide_eq_false h1] at hf
        simp only [Bool.false_and, Bool.and_false] at hf
        refine hC.go [] 60 ?_
        simp [Sc.cells, hlt, h0, h1, h1', hf]
    · rw [decide_eq_false h0, Bool.false_and] at hf
      refine hC.go [] 60 ?_
      simp [Sc.cells, hlt, h0, hf]
theorem g26 (Gl : Granted) (d : Dc) : Fun Tryz.prog Gl 26 [d.av] [] (vS d.first) [] := by
  refine fun_of (T := T4) (n := 11) (rs := [.tmp 2]) Tryz.func26 (by kernel_rfl) rfl rfl rfl tok4 mixed (by simp) fun C hC => ?_
  obtain ⟨nm, vals⟩ := d
  cases vals with
  | nil =>
    refine hC.go [] 60 ?_
    simp [Dc.first]
  | cons v l =>
    have h1 : ¬ ((l.length : Int) + 1 = 0) := by omega
    refine hC.go [] 60 ?_
    simp [Dc.first, h1]
theorem g28 (Gl : Granted) (d : Dc) (v : ByteArray) (hv : v.size ≤ 70368744177664) (hl : d.vals.length ≤ 1000000) : Fun Tryz.prog Gl 28 [d.av, vS v] [] (vB (d.takes v)) [] := by
  have ht : d.takes v = if d.vals = [] then value v else d.vals.any fun x => decide (v = x) := rfl
  obtain ⟨nm, l⟩ := d
  simp only at ht hl
  refine fun_of (T := T4) (n := 28) (rs := [.tmp 4]) Tryz.func28 (by kernel_rfl) rfl rfl rfl tok4 mixed (by simp) fun C hC => ?_
  refine hC.go [] 60 ?_
  simp
  refine go_loop (ι := {i : Nat // i ≤ l.length ∧ (l.any fun x => decide (v = x)) = (l.drop i).any fun x => decide (v = x)}) (fun x => ⟨[(1, vS v), (2, .ptr (.loc 2) 0), (5, vI x.1)], [(.loc 2, some (.box 61 [vS nm, .pv (strs l)]))]⟩)
    (fun x => l.length - x.1) ⟨0, by simp⟩ [] (by simp) fun x ih => ?_
  obtain ⟨i, hi, hn⟩ := x
  simp only at hi hn ih
  by_cases hlt : i < l.length
  · have hw := wr64 ((i : Int) + 1) (by omega)
    have hne : ¬ l = [] := fun e => by rw [e] at hlt; simp at hlt
    rw [if_neg hne] at ht
    rw [List.drop_eq_getElem_cons hlt, List.any_cons] at hn
    by_cases he : l[i] = v
    · have : (Dc.mk nm l).takes v = true := by rw [ht, hn, he]; simp
      refine hC.go [] 60 ?_
      simp [hlt, he, this]
    · have he' : ¬ v = l[i] := fun e => he e.symm
      rw [decide_eq_false he', Bool.false_or] at hn
      refine hC.go [] 60 ?_
      simp [hlt, he]
      exact go_to [] (ih ⟨i + 1, hlt, hn⟩ (by simp; omega)) (by simp [hw])
  · rw [List.drop_eq_nil_of_le (by omega), List.any_nil] at hn
    have hlt' : ¬ (i : Int) < l.length := by omega
    by_cases he : l = []
    · rw [if_pos he] at ht
      subst he
      refine hC.go [] 60 ?_
      have hi0 : ¬ (i : Int) < 0 := by omega
      simp [hi0]
      refine hC.call [] (g38 Gl v hv) (by simp) ?_
      refine hC.go [] 60 ?_
      simp [ht]
    · rw [if_neg he, hn] at ht
      have hne : ¬ (l.length : Int) = 0 := fun h => he (List.eq_nil_of_length_eq_zero (by omega))
      refine hC.go [] 60 ?_
      simp [hlt, hne, ht, he]
end Go.Proofs.D
/-
  THE LAW SchemaReads.
-/
set_option linter.unusedVariables false
set_option linter.unusedSimpArgs false
namespace Go.Proofs.D
open Go Go.Abs Go.RowKit
attribute [local simp] VC VCS stepVS stepTopS firstId memN bigB unmark markT mkOff calmP keepT boundB stepV stepTop stepReg stepOp stMove stPick stBin stUn stConv stBox stAlloc stLoad stStore stFieldAddr stField stExtract stNilCheck stMakeFunc stIndexAddr stIndex stLen
  stBuild placesOf fillA stBuildSlice sliceCells repL chunks allPV toPV drawOk drawOk.go mayMakeO mayMake1 disjoint pairOk Oper.apart Oper.looksAt Op.operands Call.operands Region.binds stAppend appBase appTail unName stSlice bndA
  LS.ev LS.get LS.blk LS.put LS.app LS.upd lkS lkH setS setH Nm.eqb guardOf nexts okPair dstOk AV.cellsOf takeAt putAt lkT sliceE fieldT intK isStrT isBoolT abin newOk LS.freshB LS.freshB.go LS.freshB.goH notIn AV.ments AV.ments.mentsL Blk.ments makes upsMents LS.start startL exitTo T T3 T4 outs callSideR callSideO callSideD upsR backO freshAll argB onlyIO List.map List.append List.nil_append List.cons_append Nat.blt
  conv convS convH srcs srcOf blkOk leA leA.leL Go.Abs.leB leP laid laidM isArg subH retP resAV resL res1 AV.frz AV.frz.frzL evL AV.ren AV.ren.renL Blk.ren renBs blksOf allSome nodupB onlyArgs blksMents callUps keyed inName inName.go backName callSide
theorem find_cases (s : Sc) (name : ByteArray) : (s.place name < 0 ∧ s.find name = (k0, false)) ∨ (¬ s.place name < 0 ∧ ∃ k : Kd, s.find name = (k, true) ∧ k.name = name ∧ k ∈ s.kinds) := by
  rcases firstAt_lt (isKind name) s.kinds 0 with h | ⟨j, h1, h2, h3⟩
  · left
    have h' : s.place name < 0 := h
    exact ⟨h', by unfold Sc.find; rw [if_pos h']⟩
  · right
    have hp : s.place name = (j : Int) := by unfold Sc.place; rw [h1]; simp
    refine ⟨by omega, s.kinds[j], ?_, by simpa [isKind] using h3, by simp⟩
    unfold Sc.find
    rw [if_neg (by omega), hp]
    simp [h2]
set_option maxRecDepth 20000 in
set_option maxHeartbeats 8000000 in
theorem g4 (s : Sc) (name : ByteArray) (d : Dc) (v : ByteArray) (hs : s.wide) (hn : name.size ≤ M47) (hd : d.wide) (hv : v.size ≤ M47) : Fun Tryz.prog tabs 4 [s.av, vS name, d.av, vS v] [] (vB true) [] := by
  have hM : M47 = 140737488355328 := rfl
  obtain ⟨dn, dv⟩ := d
  obtain ⟨d1, d2, d3⟩ := hd
  simp only at d1 d2 d3
  refine fun_of (T := T4) (n := 122) (rs := [.tmp 8]) Tryz.func4 (by kernel_rfl) rfl rfl rfl tok4 mixed (by simp) fun C hC => ?_
  refine hC.go [] 60 ?_
  simp [Sc.av, Sc.cells]
  refine hC.call [] g16 (by simp) ?_
  refine hC.go [] 60 ?_
  simp
  refine hC.call [] (g17 tabs s hs) (by simp [Sc.av, Sc.cells]) ?_
  cases hl : s.lite with
  | false =>
    refine hC.go [] 60 ?_
    simp
  | true =>
    obtain ⟨hf, l1, l2, l3⟩ := lite_fit hs hl
    have hk : ∀ k ∈ s.kinds, k.content.cnt ≤ 1000000 ∧ k.attrs.length ≤ 1000000 := fun k hkm => by have := l3 k hkm; omega
    have hb : s.ok = true → s.bytes.length ≤ 1000000000 := fun h => by have := bytes_bd h l3; omega
    by_cases h1 : 200 < (v.size : Int)
    · refine hC.go [] 60 ?_
      simp [h1]
    · by_cases h2 : 50 < (dv.length : Int)
      · have h2' : 50 < dv.length := by omega
        refine hC.go [] 60 ?_
        simp [h1, h2, h2']
      · have h2' : ¬ 50 < dv.length := by omega
        refine hC.go [] 60 ?_
        simp [h1, h2, h2']
        refine hC.call [] (g18 tabs s hk (by omega)) (by simp [Sc.av, Sc.cells]) ?_
        refine hC.go [] 60 ?_
        simp [Sc.av, Sc.cells]
        refine hC.call [] (g19 tabs s hf hb) (by simp [Sc.av, Sc.cells]) ?_
        refine hC.go [] 60 ?_
        simp
        refine hC.call [] (g20 tabs s hf (by omega) (by omega) hb) (by simp [Sc.av, Sc.cells]) ?_
        refine hC.go [] 60 ?_
        simp
        refine hC.call [] (g21 tabs s name) (by simp [Sc.av, Sc.cells, Kd.av, Kd.cells, E.cells]) ?_
        refine hC.go [] 60 ?_
        simp [Kd.av, Kd.cells, E.cells]
        refine hC.call [] (g22 tabs s name (by omega)) (by simp [Sc.av, Sc.cells]) ?_
        refine hC.go [] 60 ?_
        simp
        refine hC.drawn (by kernel_rfl) (by simp) ?_
        refine hC.go [] 60 ?_
        simp
        refine hC.call [] (g23 tabs s hf) (by simp [Sc.av, Sc.cells]) ?_
        refine hC.go [] 60 ?_
        simp
        refine hC.call [] (g24 tabs s hf (by omega) (by omega)) (by simp [Sc.av, Sc.cells]) ?_
        rcases find_cases s name with ⟨p1, p2⟩ | ⟨p1, k, p2, p3, _⟩
        · have p1' : ¬ 0 ≤ s.place name := by omega
          rw [p2]
          refine hC.go [] 60 ?_
          simp [p1', k0]
          refine hC.call [] (g25 tabs ⟨dn, dv⟩) (by simp) ?_
          refine hC.go [] 60 ?_
          simp
          refine hC.call [] (g26 tabs ⟨dn, dv⟩) (by simp) ?_
          refine hC.go [] 60 ?_
          simp
          refine hC.call [] (g27 ⟨dn, dv⟩ v (by omega)) (by simp) ?_
          refine hC.go [] 60 ?_
          simp
          refine hC.call [] (g28 tabs ⟨dn, dv⟩ v (by omega) (by simp only; omega)) (by simp) ?_
          refine hC.go [] 60 ?_
          simp
        · have p1' : 0 ≤ s.place name := by omega
          rw [p2]
          refine hC.go [] 60 ?_
          simp [p1', p3]
          refine hC.call [] (g25 tabs ⟨dn, dv⟩) (by simp) ?_
          refine hC.go [] 60 ?_
          simp
          refine hC.call [] (g26 tabs ⟨dn, dv⟩) (by simp) ?_
          refine hC.go [] 60 ?_
          simp
          refine hC.call [] (g27 ⟨dn, dv⟩ v (by omega)) (by simp) ?_
          refine hC.go [] 60 ?_
          simp
          refine hC.call [] (g28 tabs ⟨dn, dv⟩ v (by omega) (by simp only; omega)) (by simp) ?_
          refine hC.go [] 60 ?_
          simp
end Go.Proofs.D
