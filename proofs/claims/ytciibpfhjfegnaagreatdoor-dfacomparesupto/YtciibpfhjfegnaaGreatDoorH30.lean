/-
  WHETHER TWO EXPRESSIONS MEAN THE SAME, by their dfas; the law DfaOrder.
-/
import Derived.Test.YtciibpfhjfegnaaGreatDoorH25
import Derived.Test.YtciibpfhjfegnaaGreatDoorH24
import Derived.Test.YtciibpfhjfegnaaGreatDoorH19
import Derived.Test.YtciibpfhjfegnaaGreatDoorG18
import Derived.Test.YtciibpfhjfegnaaGreatDoorG3
set_option linter.unusedVariables false
set_option linter.unusedSimpArgs false
namespace Go.Proofs.D
open Go Go.Abs Go.RowKit
attribute [local simp] VC VCS stepVS stepTopS firstId memN bigB unmark markT mkOff calmP keepT boundB boundC stepV stepTop stepReg stepOp stMove stPick stBin stUn stConv stBox stAlloc stLoad stStore stFieldAddr stField stExtract stNilCheck stMakeFunc stIndexAddr stIndex stLen
  stBuild placesOf fillA stBuildSlice sliceCells repL chunks allPV toPV drawOk drawOk.go mayMakeO mayMake1 disjoint pairS Oper.apart Oper.looksAt Op.operands Call.operands Region.binds stAppend appBase appTail unName stSlice bndA
  LS.ev LS.get LS.blk LS.put LS.app LS.upd lkS lkH setS setH Nm.eqb guardOf nexts okPair dstOk AV.cellsOf takeAt putAt lkT sliceE fieldT intK isStrT isBoolT abin newOk LS.freshB LS.freshB.go LS.freshB.goH notIn AV.ments AV.ments.mentsL Blk.ments makes upsMents LS.start startL exitTo T T5 outs callSideR callSideO callSideD upsR backO freshAll argB onlyIO List.map List.append List.nil_append List.cons_append Nat.blt
  conv convS convH srcs srcOf blkOk leA leA.leL Go.Abs.leB leP laid laidM laidG isArg subH retP resAV resL res1 AV.frz AV.frz.frzL evL AV.ren AV.ren.renL Blk.ren renBs blksOf allSome nodupB onlyArgs blksMents callUps keyed inName inName.go backName callSide
open Classical in
noncomputable def sameB (e f : E) : Bool := decide (∀ w, e.L w ↔ f.L w)
open Classical in
noncomputable def withB (e f : E) : Bool := decide (∀ w, e.L w → f.L w)
open Classical in
theorem apart_same (e f : E) : (!(apartR e f true).2) = sameB e f := by
  cases h : (apartR e f true).2 with
  | false =>
    have := apartR_false h
    refine (decide_eq_true fun w => ?_).symm
    have := this w
    unfold Dif at this
    constructor
    · intro h1; exact Classical.byContradiction fun h2 => this (.inl ⟨h1, h2⟩)
    · intro h1; exact Classical.byContradiction fun h2 => this (.inr ⟨rfl, h1, h2⟩)
  | true =>
    obtain ⟨w, hw⟩ := apartR_true h
    refine (decide_eq_false fun q => ?_).symm
    rcases hw with ⟨h1, h2⟩ | ⟨_, h1, h2⟩
    · exact h2 ((q w).1 h1)
    · exact h2 ((q w).2 h1)
open Classical in
theorem apart_with (e f : E) : (!(apartR e f false).2) = withB e f := by
  cases h : (apartR e f false).2 with
  | false =>
    have := apartR_false h
    refine (decide_eq_true fun w h1 => ?_).symm
    exact Classical.byContradiction fun h2 => this w (.inl ⟨h1, h2⟩)
  | true =>
    obtain ⟨w, hw⟩ := apartR_true h
    refine (decide_eq_false fun q => ?_).symm
    rcases hw with ⟨h1, h2⟩ | ⟨h0, _⟩
    · exact h2 (q w h1)
    · cases h0
theorem same_within (e f : E) : sameB e f = (withB e f && withB f e) := by
  rw [Bool.eq_iff_iff, Bool.and_eq_true]
  unfold sameB withB
  simp only [decide_eq_true_eq]
  exact ⟨fun h => ⟨fun w => (h w).1, fun w => (h w).2⟩, fun h w => ⟨h.1 w, h.2 w⟩⟩
theorem same_comm (e f : E) : sameB e f = sameB f e := by
  rw [same_within, same_within, Bool.and_comm]
theorem within_trans {e f g : E} (h : withB e f = true) (h' : withB f g = true) : withB e g = true := by
  unfold withB at *
  simp only [decide_eq_true_eq] at *
  exact fun w q => h' w (h w q)
theorem c25 {e f : E} (he : Tame e) (hf : Tame f) : Fun Tryz.prog tab10 25 [e.dfa.av, f.dfa.av] [] (vB (sameB e f)) [] := by
  obtain ⟨l1, m1⟩ := dfa_least he.1 he.2
  obtain ⟨l2, m2⟩ := dfa_least hf.1 hf.2
  rw [← apart_same]
  exact h25 tab10 l1 l2 he.2 hf.2 he.1 hf.1 m1 m2 (dfa_fit he) (dfa_fit hf)
theorem c26 {e f : E} (he : Tame e) (hf : Tame f) : Fun Tryz.prog tab10 26 [e.dfa.av, f.dfa.av] [] (vB (withB e f)) [] := by
  obtain ⟨l1, m1⟩ := dfa_least he.1 he.2
  obtain ⟨l2, m2⟩ := dfa_least hf.1 hf.2
  rw [← apart_with]
  exact h26 tab10 l1 l2 he.2 hf.2 he.1 hf.1 m1 m2 (dfa_fit he) (dfa_fit hf)
theorem c22 {e f : E} (he : Tame e) (hf : Tame f) : Fun Tryz.prog tab10 22 [e.dfa.av, f.dfa.av] [] (.tup [.pv (namesV (apartR e f true).1), vB (apartR e f true).2]) [] := by
  obtain ⟨l1, m1⟩ := dfa_least he.1 he.2
  obtain ⟨l2, m2⟩ := dfa_least hf.1 hf.2
  exact h22 tab10 l1 l2 he.2 hf.2 he.1 hf.1 m1 m2 (dfa_fit he) (dfa_fit hf)
theorem c17 {e : E} (hs : e.small) (hc : e.cnt ≤ 1000000000) (hr : e.right = true) : Fun Tryz.prog tab10 17 [e.av] [] (.tup [e.dfa.av, vI 0]) [] := by
  have := h17 e hs hc
  rwa [show e.dfaOf = .tup [e.dfa.av, vI 0] by rw [E.dfaOf, if_pos hr]] at this
attribute [local simp] T6
set_option maxRecDepth 20000 in
set_option maxHeartbeats 4000000 in
theorem h7 (e : E) (hs : e.small) (hc : e.cnt ≤ 1000000000) (f : E) (hsf : f.small) (hcf : f.cnt ≤ 1000000000) (g : E) (hsg : g.small) (hcg : g.cnt ≤ 1000000000) : Fun Tryz.prog tab10 7 [e.av, f.av, g.av] [] (vB true) [] := by
  have hof := @c17 e hs hc
  have hofF := @c17 f hsf hcf
  have hofG := @c17 g hsg hcg
  refine fun_of (T := T5) (n := 84) (rs := [.tmp 6]) Tryz.func7 (by kernel_rfl) rfl rfl rfl tok5 mixed (by simp) fun C hC => ?_
  refine hC.go [] 60 ?_
  simp [E.av, E.cells]
  refine hC.call [] h15 (by simp) ?_
  refine hC.go [] 60 ?_
  simp
  refine hC.call [] (f18 tab10 e hs) (by simp [E.av, E.cells]) ?_
  cases hr : e.right with
  | false =>
    refine hC.go [] 60 ?_
    simp
  | true =>
    refine hC.go [] 60 ?_
    simp
    refine hC.call [] (f18 tab10 f hsf) (by simp [E.av, E.cells]) ?_
    cases hrf : f.right with
    | false =>
      refine hC.go [] 60 ?_
      simp
    | true =>
      refine hC.go [] 60 ?_
      simp
      refine hC.call [] (f18 tab10 g hsg) (by simp [E.av, E.cells]) ?_
      cases hrg : g.right with
      | false =>
        refine hC.go [] 60 ?_
        simp
      | true =>
        have he := right_tame hr hc
        have hf := right_tame hrf hcf
        have hg := right_tame hrg hcg
        replace hof := hof hr
        replace hofF := hofF hrf
        replace hofG := hofG hrg
        have sab := c25 he hf
        have wab := c26 he hf
        have wba := c26 hf he
        have sba := c25 hf he
        have wbc := c26 hf hg
        have wac := c26 he hg
        have p1 := same_within e f
        have p2 := same_comm e f
        have p3 : withB e f = true → withB f g = true → withB e g = true := fun h h' => within_trans h h'
        generalize sameB e f = Sab at sab p1 p2
        generalize sameB f e = Sba at sba p2
        generalize withB e f = Wab at wab p1 p3
        generalize withB f e = Wba at wba p1
        generalize withB f g = Wbc at wbc p3
        generalize withB e g = Wac at wac p3
        generalize e.dfa = a at *
        generalize f.dfa = b at *
        generalize g.dfa = c at *
        subst p2
        subst p1
        refine hC.go [] 60 ?_
        simp
        refine hC.call [] hof (by simp [E.av, E.cells, Au.av, Au.cells]) ?_
        refine hC.go [] 60 ?_
        simp [E.cells, Au.av, Au.cells]
        refine hC.call [] hofF (by simp [E.av, E.cells, Au.av, Au.cells]) ?_
        refine hC.go [] 60 ?_
        simp [E.cells, Au.av, Au.cells]
        refine hC.call [] hofG (by simp [E.av, E.cells, Au.av, Au.cells]) ?_
        refine hC.go [] 60 ?_
        simp [E.cells, Au.av, Au.cells]
        refine hC.drawn (by kernel_rfl) (by simp) ?_
        refine hC.go [] 60 ?_
        simp
        refine hC.call [] sab (by simp [Au.av, Au.cells]) ?_
        refine hC.go [] 60 ?_
        simp
        refine hC.call [] wab (by simp [Au.av, Au.cells]) ?_
        cases Wab with
        | false =>
          refine hC.go [] 60 ?_
          simp
          refine hC.call [] sab (by simp [Au.av, Au.cells]) ?_
          refine hC.go [] 60 ?_
          simp
          refine hC.call [] sba (by simp [Au.av, Au.cells]) ?_
          refine hC.go [] 60 ?_
          simp
          refine hC.call [] wab (by simp [Au.av, Au.cells]) ?_
          refine hC.go [] 60 ?_
          simp
        | true =>
          refine hC.go [] 60 ?_
          simp
          refine hC.call [] wba (by simp [Au.av, Au.cells]) ?_
          all_goals cases Wba
          all_goals
            refine hC.go [] 60 ?_
            simp
            refine hC.call [] sab (by simp [Au.av, Au.cells]) ?_
            refine hC.go [] 60 ?_
            simp
            refine hC.call [] sba (by simp [Au.av, Au.cells]) ?_
            refine hC.go [] 60 ?_
            simp
            refine hC.call [] wab (by simp [Au.av, Au.cells]) ?_
            refine hC.go [] 60 ?_
            simp
            refine hC.call [] wbc (by simp [Au.av, Au.cells]) ?_
            cases Wbc with
            | false =>
              refine hC.go [] 60 ?_
              simp
            | true =>
              refine hC.go [] 60 ?_
              simp
              refine hC.call [] wac (by simp [Au.av, Au.cells]) ?_
              rw [p3 rfl rfl]
              refine hC.go [] 60 ?_
              simp
end Go.Proofs.D
namespace Go.Proofs.D
open Go Go.Abs Go.RowKit
attribute [local simp] VC VCS stepVS stepTopS firstId memN bigB unmark markT mkOff calmP keepT boundB boundC stepV stepTop stepReg stepOp stMove stPick stBin stUn stConv stBox stAlloc stLoad stStore stFieldAddr stField stExtract stNilCheck stMakeFunc stIndexAddr stIndex stLen
  stBuild placesOf fillA stBuildSlice sliceCells repL chunks allPV toPV drawOk drawOk.go mayMakeO mayMake1 disjoint pairS Oper.apart Oper.looksAt Op.operands Call.operands Region.binds stAppend appBase appTail unName stSlice bndA
  LS.ev LS.get LS.blk LS.put LS.app LS.upd lkS lkH setS setH Nm.eqb guardOf nexts okPair dstOk AV.cellsOf takeAt putAt lkT sliceE fieldT intK isStrT isBoolT abin newOk LS.freshB LS.freshB.go LS.freshB.goH notIn AV.ments AV.ments.mentsL Blk.ments makes upsMents LS.start startL exitTo T T5 outs callSideR callSideO callSideD upsR backO freshAll argB onlyIO List.map List.append List.nil_append List.cons_append Nat.blt
  conv convS convH srcs srcOf blkOk leA leA.leL Go.Abs.leB leP laid laidM laidG isArg subH retP resAV resL res1 AV.frz AV.frz.frzL evL AV.ren AV.ren.renL Blk.ren renBs blksOf allSome nodupB onlyArgs blksMents callUps keyed inName inName.go backName callSide
theorem ref_least {e : E} (he : Tame e) : ∃ L, Least (refA e e.namesR BW) L ∧ ∀ w, L 0 w ↔ e.L w := refA_least e he.1 he.2 e.namesR BW rfl (sorted_nodup (namesR_sorted e)) fun x => by rw [namesR_names]; exact names_mem e x
theorem c29 {e f : E} (he : Tame e) (hf : Tame f) (one : Bool) : Fun Tryz.prog tab10 29 [(refA e e.namesR BW).av, (refA f f.namesR BW).av, vB one] [] (.tup [.pv (namesV (apartR e f (!one)).1), vB (apartR e f (!one)).2]) [] := by
  obtain ⟨La, l1, m1⟩ := ref_least he
  obtain ⟨Lb, l2, m2⟩ := ref_least hf
  have n1 : (refA e e.namesR BW).names = e.names := namesR_names e
  have n2 : (refA f f.namesR BW).names = f.names := namesR_names f
  exact h29 tab10 l1 l2 he.2 hf.2 he.1 hf.1 m1 m2 (by rw [n1]; exact names_sorted e) (by rw [n1]; exact dfa_fit he) (by rw [n2]; exact dfa_fit hf) one
theorem c27 {e : E} (hs : e.small) (hr : e.right = true) (he : Tame e) : Fun Tryz.prog tab10 27 [e.av] [] (.tup [(refA e e.namesR BW).av, vI 0]) [] := by
  have := h27 tab10 e hs (fun _ => he.2) BW rfl
  rwa [if_pos hr] at this
attribute [local simp] T6
set_option maxRecDepth 20000 in
set_option maxHeartbeats 4000000 in
theorem h8 (e : E) (hs : e.small) (hc : e.cnt ≤ 1000000000) (f : E) (hsf : f.small) (hcf : f.cnt ≤ 1000000000) : Fun Tryz.prog tab10 8 [e.av, f.av] [] (vB true) [] := by
  have hof := @c17 e hs hc
  have hofF := @c17 f hsf hcf
  refine fun_of (T := T5) (n := 98) (rs := [.tmp 4]) Tryz.func8 (by kernel_rfl) rfl rfl rfl tok5 mixed (by simp) fun C hC => ?_
  refine hC.go [] 60 ?_
  simp [E.av, E.cells]
  refine hC.call [] h15 (by simp) ?_
  refine hC.go [] 60 ?_
  simp
  refine hC.call [] (f18 tab10 e hs) (by simp [E.av, E.cells]) ?_
  cases hr : e.right with
  | false =>
    refine hC.go [] 60 ?_
    simp
  | true =>
    refine hC.go [] 60 ?_
    simp
    refine hC.call [] (f18 tab10 f hsf) (by simp [E.av, E.cells]) ?_
    cases hrf : f.right with
    | false =>
      refine hC.go [] 60 ?_
      simp
    | true =>
      have he := right_tame hr hc
      have hf := right_tame hrf hcf
      have hc24 := he.2
      have hcf24 := hf.2
      replace hof := hof hr
      replace hofF := hofF hrf
      have as1 := asE7 tab10 e (by omega)
      have as2 := asE7 tab10 f (by omega)
      have of1 := c27 hs hr he
      have of2 := c27 hsf hrf hf
      have aab := c22 he hf
      have a1 := c29 he hf false
      have a2 := c29 he hf true
      have sab := c25 he hf
      have wab := c26 he hf
      rw [← apart_same] at sab
      rw [← apart_with] at wab
      simp only [Bool.not_false, Bool.not_true] at a1 a2
      generalize apartR e f true = r at aab a1 sab
      generalize apartR e f false = r2 at a2 wab
      obtain ⟨row, ap⟩ := r
      obtain ⟨row2, ap2⟩ := r2
      dsimp only at aab a1 a2 sab wab
      generalize e.dfa = a at hof aab sab wab
      generalize f.dfa = b at hofF aab sab wab
      generalize refA e e.namesR BW = c at of1 a1 a2
      generalize refA f f.namesR BW = d at of2 a1 a2
      have h23 := h23 tab10 row row
      rw [decide_eq_true rfl] at h23
      refine hC.go [] 60 ?_
      simp
      refine hC.call [] hof (by simp [E.av, E.cells, Au.av, Au.cells]) ?_
      refine hC.go [] 60 ?_
      simp [E.cells, Au.av, Au.cells]
      refine hC.call [] hofF (by simp [E.av, E.cells, Au.av, Au.cells]) ?_
      refine hC.go [] 60 ?_
      simp [E.cells, Au.av, Au.cells]
      refine hC.call [] as1 (by simp [E.av, E.cells]) ?_
      refine hC.go [] 60 ?_
      simp [E.av, E.cells, Au.av, Au.cells]
      refine hC.call [] of1 (by simp [E.av, E.cells, Au.av, Au.cells]) ?_
      refine hC.go [] 60 ?_
      simp [E.cells, Au.av, Au.cells]
      refine hC.call [] as2 (by simp [E.av, E.cells]) ?_
      refine hC.go [] 60 ?_
      simp [E.av, E.cells, Au.av, Au.cells]
      refine hC.call [] of2 (by simp [E.av, E.cells, Au.av, Au.cells]) ?_
      refine hC.go [] 60 ?_
      simp [E.cells, Au.av, Au.cells]
      refine hC.call [] aab (by simp [Au.av, Au.cells]) ?_
      refine hC.go [] 60 ?_
      simp [E.cells, Au.av, Au.cells]
      refine hC.call [] a1 (by simp [Au.av, Au.cells]) ?_
      refine hC.go [] 60 ?_
      simp [E.cells, Au.av, Au.cells]
      refine hC.call [] a2 (by simp [Au.av, Au.cells]) ?_
      refine hC.go [] 60 ?_
      simp [E.cells, Au.av, Au.cells]
      refine hC.call [] h23 (by simp) ?_
      cases ap
      all_goals
        refine hC.go [] 60 ?_
        simp [E.cells, Au.av, Au.cells]
        refine hC.call [] sab (by simp [Au.av, Au.cells]) ?_
        cases ap2
        all_goals
          refine hC.go [] 60 ?_
          simp [E.cells, Au.av, Au.cells]
          refine hC.call [] wab (by simp [Au.av, Au.cells]) ?_
          refine hC.go [] 60 ?_
          simp [E.cells, Au.av, Au.cells]
end Go.Proofs.D
