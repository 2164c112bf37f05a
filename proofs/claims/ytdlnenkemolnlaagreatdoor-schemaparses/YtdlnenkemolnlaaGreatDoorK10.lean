/-
  THE LIBRARY'S FUNCTIONS that read its tables; a text between quotes.
-/
import Derived.Test.YtdlnenkemolnlaaGreatDoorK17
import Derived.Test.YtdlnenkemolnlaaGreatDoorP3
import Derived.Test.YtdlnenkemolnlaaGreatDoorAbsK
import Derived.Test.YtdlnenkemolnlaaGreatDoorShelfB
import Derived.Test.YtdlnenkemolnlaaGreatDoorL0
set_option linter.unusedVariables false
set_option linter.unusedSimpArgs false
namespace Go.Proofs.D
open Go Go.Abs Go.RowKit
attribute [local simp] VC VCS stepVS stepTopS firstId memN bigB unmark markT mkOff calmP keepT boundB stepV stepTop stepReg stepOp stMove stPick stBin stUn stConv stBox stAlloc stLoad stStore stFieldAddr stField stExtract stNilCheck stMakeFunc stIndexAddr stIndex stLen
  stBuild placesOf fillA stBuildSlice sliceCells repL chunks allPV toPV drawOk drawOk.go mayMakeO mayMake1 disjoint pairOk Oper.apart Oper.looksAt Op.operands Call.operands Region.binds stAppend appBase appTail unName stSlice bndA
  LS.ev LS.get LS.blk LS.put LS.app LS.upd lkS lkH setS setH Nm.eqb guardOf nexts okPair dstOk AV.cellsOf takeAt putAt lkT sliceE fieldT intK isStrT isBoolT abin newOk LS.freshB LS.freshB.go LS.freshB.goH notIn AV.ments AV.ments.mentsL Blk.ments makes upsMents LS.start startL exitTo T T3 outs callSideO callSideD upsR backO freshAll argB onlyIO List.map List.append List.nil_append List.cons_append Nat.blt
  conv convS convH srcs srcOf blkOk leA leA.leL Go.Abs.leB leP laid laidM laidG isArg subH retP resAV resL res1 AV.frz AV.frz.frzL evL AV.ren AV.ren.renL Blk.ren renBs blksOf allSome nodupB onlyArgs blksMents callUps keyed inName inName.go backName callSide
/-- The library's tables read as they are laid. -/
def tabs : Granted := ⟨fun w F => Lib.Utf8Tabs 0 1 w ∧ F 0 ∧ F 1 ∧ (∃ m, w.cell? ⟨2, 0, none⟩ = some (.int .i64 m)) ∧ F 2, by
  rintro w w' F F' ⟨⟨h1, h2⟩, f0, f1, ⟨m, hm⟩, f2⟩ hw hF
  have hc : ∀ (k o : Nat), F k → w'.cell? ⟨k, o, none⟩ = w.cell? ⟨k, o, none⟩ := fun k o hk => World.cell?_of_block (w := w) (hw k hk)
  refine ⟨⟨fun c hc' => by rw [hc 0 c f0]; exact h1 c hc', fun i hi => ?_⟩, hF _ f0, hF _ f1, ⟨m, by rw [hc 2 0 f2]; exact hm⟩, hF _ f2⟩
  rw [hc 1 _ f1, hc 1 _ f1]
  exact h2 i hi⟩
theorem f90 (s : ByteArray) (hs : s.size ≤ 9223372036854775807) : Fun Tryz.prog tabs 106 [vS s] [] (vB (utfOk s)) [] := by
  refine fun_shelf ⟨_, Tryz.func106, by kernel_rfl, rfl⟩ fun w F cargs hg hF hlen hr => ?_
  match cargs, hlen with
  | [c0], _ =>
    obtain rfl := bool_of (hr 0 _ c0 rfl rfl)
    exact (Tryz.utf8_ValidString s w hs hg.1).mono fun e w' ⟨he, hb⟩ => ⟨_, he, .pv _ _ (.val _ rfl), hb⟩
theorem f149 (Gl : Granted) (s : ByteArray) (hs : s.size < 9223372036854775807) : Fun Tryz.prog Gl 167 [vS s] [] (vI (Lib.runeCount s)) [] := by
  refine fun_shelf ⟨_, Tryz.func167, by kernel_rfl, rfl⟩ fun w F cargs hg hF hlen hr => ?_
  match cargs, hlen with
  | [c0], _ =>
    obtain rfl := bool_of (hr 0 _ c0 rfl rfl)
    exact (Tryz.utf8_RuneCountInString s w hs).mono fun e w' ⟨he, pos, hb⟩ => ⟨_, he, .pv _ _ (.val _ rfl), by rw [hb]; exact (Below.refl _ _).alloc (Nat.le_refl _) _⟩
theorem f88 (s old new : ByteArray) (hs : s.size < 4294967281) (h1 : 1 ≤ old.size) (h2 : new.size ≤ 16) : Fun Tryz.prog tabs 115 [vS s, vS old, vS new] [] (vS ⟨(Lib.replaceAll s.data.toList old.data.toList new.data.toList).toArray⟩) [] := by
  refine fun_shelf ⟨_, Tryz.func115, by kernel_rfl, rfl⟩ fun w F cargs hg hF hlen hr => ?_
  match cargs, hlen with
  | [c0, c1, c2], _ =>
    obtain rfl := bool_of (hr 0 _ c0 rfl rfl)
    obtain rfl := bool_of (hr 1 _ c1 rfl rfl)
    obtain rfl := bool_of (hr 2 _ c2 rfl rfl)
    obtain ⟨_, _, _, ⟨m, hm⟩, _⟩ := hg
    refine (Tryz.strings_ReplaceAll s old new m w hs hm h1 ?_).mono fun e w' ⟨he, hb⟩ => ⟨_, he, .pv _ _ (.val _ rfl), hb⟩
    have := Lib.countB_le old h1 _ s (Nat.le_refl _)
    have : Lib.countB s old * new.size ≤ s.size * 16 := Nat.mul_le_mul this h2
    omega
theorem f67 (s : ByteArray) (hs : s.size ≤ 9223372036854775807) : Fun Tryz.prog tabs 61 [vS s] [] (vB (value s)) [] := by
  refine fun_of (T := T3) (n := 10) (rs := [.tmp 2]) Tryz.func61 (by kernel_rfl) rfl rfl rfl tok3 mixed (by simp) fun C hC => ?_
  by_cases h : (s.size : Int) ≤ 40
  · refine hC.vc [] 60 ?_
    simp [h]
    refine hC.call [] (f90 s hs) (by simp) ?_
    refine hC.vc [] 60 ?_
    simp [value, h]
  · refine hC.vc [] 60 ?_
    simp [value, h]
def bs (l : Bs) : ByteArray := ⟨l.toArray⟩
theorem bs_size (l : Bs) : (bs l).size = l.length := rfl
theorem bs_list (l : Bs) : (bs l).data.toList = l := by simp [bs]
theorem f65 (s : ByteArray) (hs : s.size ≤ 1000000) : Fun Tryz.prog tabs 69 [vS s] [] (vS (bs (quoteB s.data.toList))) [] := by
  refine fun_of (T := T3) (n := 9) (rs := [.tmp 2]) Tryz.func69 (by kernel_rfl) rfl rfl rfl tok3 mixed (by simp) fun C hC => ?_
  refine hC.vc [] 60 ?_
  simp
  refine hC.call [] (f88 s ⟨#[92]⟩ ⟨#[92, 92]⟩ (by omega) (by decide) (by decide)) (by simp) ?_
  refine hC.vc [] 60 ?_
  simp
  have e1 : (Lib.replaceAll s.data.toList [92] [92, 92]).length ≤ 2 * s.size := by
    rw [replace1 92 [92, 92] _ (by decide), ← bsz]
    generalize s.data.toList = l
    induction l with
    | nil => simp
    | cons b l ih =>
      rw [List.flatMap_cons, List.length_append, List.length_cons]
      split <;> simp only [List.length_cons, List.length_nil] <;> omega
  refine hC.call [] (f88 ⟨(Lib.replaceAll s.data.toList [92] [92, 92]).toArray⟩ ⟨#[34]⟩ ⟨#[92, 34]⟩ (by show (Lib.replaceAll s.data.toList [92] [92, 92]).length < _; omega) (by decide) (by decide)) (by simp) ?_
  have e2 := esc_eq s.data.toList
  have e3 := esc_len s.data.toList
  rw [bsz] at e3
  simp only [List.toList_toArray, e2]
  have e4 : (⟨(esc s.data.toList).toArray⟩ : ByteArray).size = (esc s.data.toList).length := rfl
  have e5 : (⟨#[34]⟩ : ByteArray).size = 1 := rfl
  have e6 : (⟨#[34]⟩ : ByteArray) ++ ⟨(esc s.data.toList).toArray⟩ ++ ⟨#[34]⟩ = bs (quoteB s.data.toList) := bsExt (by simp [bs, quoteB, ByteArray.data_append])
  refine hC.vc [] 60 ?_
  simp [e4, e5, e6]
  omega
end Go.Proofs.D
/-
  NODES: is one well formed?
-/
set_option linter.unusedVariables false
set_option linter.unusedSimpArgs false
namespace Go.Proofs.D
open Go Go.Abs Go.RowKit
attribute [local simp] VC VCS stepVS stepTopS firstId memN bigB unmark markT mkOff calmP keepT boundB stepV stepTop stepReg stepOp stMove stPick stBin stUn stConv stBox stAlloc stLoad stStore stFieldAddr stField stExtract stNilCheck stMakeFunc stIndexAddr stIndex stLen
  stBuild placesOf fillA stBuildSlice sliceCells repL chunks allPV toPV drawOk drawOk.go mayMakeO mayMake1 disjoint pairOk Oper.apart Oper.looksAt Op.operands Call.operands Region.binds stAppend appBase appTail unName stSlice bndA
  LS.ev LS.get LS.blk LS.put LS.app LS.upd lkS lkH setS setH Nm.eqb guardOf nexts okPair dstOk AV.cellsOf takeAt putAt lkT sliceE fieldT intK isStrT isBoolT abin newOk LS.freshB LS.freshB.go LS.freshB.goH notIn AV.ments AV.ments.mentsL Blk.ments makes upsMents LS.start startL exitTo T T3 outs callSideO callSideD upsR backO freshAll argB onlyIO List.map List.append List.nil_append List.cons_append Nat.blt
  conv convS convH srcs srcOf blkOk leA leA.leL Go.Abs.leB leP laid laidM laidG isArg subH retP resAV resL res1 AV.frz AV.frz.frzL evL AV.ren AV.ren.renL Blk.ren renBs blksOf allSome nodupB onlyArgs blksMents callUps keyed inName inName.go backName callSide
theorem N.lim {n : N} (h : n.wt ≤ 100000) : n.kind.size ≤ 100000 ∧ n.text.size ≤ 100000 ∧ (∀ s ∈ n.marks, s.size ≤ 100000) ∧ (∀ p ∈ n.attrs, p.1.size ≤ 100000 ∧ p.2.size ≤ 100000) ∧ (∀ x ∈ n.kids, x.wt ≤ 100000) ∧ n.marks.length ≤ 100000 ∧ n.attrs.length ≤ 100000 ∧ n.kids.length ≤ 100000 := by
  rw [N.wt_eq] at h
  have h1 := names1_len n.marks
  have h2 := attrs1_len n.attrs
  have h3 := go_len_wt n.kids
  refine ⟨by omega, by omega, fun s hs => ?_, fun p hp => ?_, fun x hx => ?_, by omega, by omega, by omega⟩
  · have := mem_names1 hs; omega
  · have := mem_attrs1 hp; exact ⟨by omega, by omega⟩
  · have := wt_kid hx; omega
set_option maxRecDepth 20000 in
set_option maxHeartbeats 2000000 in
theorem f131 (n : N) (hw : n.wt ≤ 100000) : Fun Tryz.prog tabs 174 [n.av] [] (vB n.form) [] := by
  obtain ⟨z1, z2, z3, z4, z5, z6, z7, z8⟩ := N.lim hw
  have hrec : ∀ x ∈ n.kids, Fun Tryz.prog tabs 174 [x.av] [] (vB x.form) [] := fun x hx => f131 x (z5 x hx)
  refine fun_of (T := T3) (n := 96) (rs := [.tmp 2]) Tryz.func174 (by kernel_rfl) rfl rfl rfl tok3 mixed (by simp) fun C hC => ?_
  have hform := N.form_eq n
  refine hC.vc [] 60 ?_
  simp [N.av, N.cells]
  refine hC.call [] (f152 tabs n) (by simp [N.av, N.cells]) ?_
  cases hk : n.isText with
  | true =>
    have hkind : n.kind = textK := by simpa [N.isText] using hk
    rw [if_pos hkind] at hform
    by_cases ht : n.text = ⟨#[]⟩
    · refine hC.vc [] 60 ?_
      simp [ht, hform]
    · simp only [ht, decide_false, Bool.not_false, Bool.true_and] at hform
      refine hC.vc [] 60 ?_
      simp [N.cells, ht]
      refine hC.call [] (f90 n.text (by omega)) (by simp) ?_
      refine hC.vc [] 60 ?_
      cases hu : utfOk n.text with
      | false => simp [hform, hu]
      | true =>
        rw [hu, Bool.true_and] at hform
        simp [N.cells]
        refine hC.call [] (f153 tabs n.marks fun s hs => Nat.le_trans (z3 s hs) (by decide)) (by simp) ?_
        refine hC.vc [] 60 ?_
        cases hr : rise n.marks with
        | false => simp [hform, hr]
        | true =>
          rw [hr, Bool.true_and] at hform
          have hw0 := wr64 0 (by omega)
          have hsum := wr64 ((n.attrs.length : Int) + n.kids.length) (by omega)
          by_cases h0 : (n.attrs.length : Int) + n.kids.length = 0
          · have h1 : n.attrs = [] := List.eq_nil_of_length_eq_zero (by omega)
            have h2 : n.kids.length = 0 := by omega
            have : n.form = true := by rw [hform]; simp [h1, h2]
            simp [N.cells, hsum, h0, hw0, this]
          · have : n.form = false := by
              rw [hform]
              by_cases h1 : n.attrs = []
              · have h2 : ¬ n.kids.length = 0 := by rw [h1] at h0; simpa using h0
                simp [h2]
              · simp [h1]
            simp [N.cells, hsum, h0, hw0, this]
  | false =>
    have hkind : ¬ n.kind = textK := by simpa [N.isText] using hk
    rw [if_neg hkind] at hform
    refine hC.vc [] 60 ?_
    simp [N.cells]
    refine go_loop (ι := {i : Nat // i ≤ n.attrs.length ∧ n.attrs.all (fun p => value p.2) = (n.attrs.drop i).all (fun p => value p.2)}) (fun x => ⟨[(1, .ptr (.loc 1) 0), (34, .pv (pairs n.attrs)), (35, vI n.attrs.length), (36, vI x.1), (3, .own (.can 0))],
        [(.loc 1, some (.box 87 n.cells)), (.can 0, some (.row 9 1 ((n.attrs.map fun p => [PV.val (.string p.1)]).take x.1)))]⟩)
      (fun x => n.attrs.length - x.1) ⟨0, by simp⟩ [(.can 0, .nil)] (by simp [N.cells]) fun x ih => ?_
    obtain ⟨i, hi, hn⟩ := x
    simp only at hi hn ih
    refine hC.vc [] 60 ?_
    by_cases hlt : i < n.attrs.length
    · have hw1 := wr64 ((i : Int) + 1) (by omega)
      rw [List.drop_eq_getElem_cons hlt, List.all_cons] at hn
      simp [hlt, N.cells]
      refine hC.call [] (f67 n.attrs[i].2 (by have := (z4 n.attrs[i] (by simp)).2; omega)) (by simp) ?_
      cases hv : value n.attrs[i].2 with
      | false =>
        rw [hv, Bool.false_and] at hn
        have : n.form = false := by rw [hform, hn]; rfl
        refine hC.vc [] 60 ?_
        simp [this]
      | true =>
        rw [hv, Bool.true_and] at hn
        refine hC.vc [] 60 ?_
        simp
        refine ⟨by omega, ?_⟩
        have htk : (n.attrs.map fun p => [PV.val (.string p.1)]).take (i + 1) = (n.attrs.map fun p => [PV.val (.string p.1)]).take i ++ [[.val (.string n.attrs[i].1)]] := by
          rw [List.take_add_one, List.getElem?_map, List.getElem?_eq_getElem hlt]; rfl
        exact go_to [(.can 0, .nm (.loc 48))] (ih ⟨i + 1, hlt, hn⟩ (by simp; omega)) (by simp [hw1, N.cells, htk])
    · rw [List.drop_eq_nil_of_le (by omega), List.all_nil] at hn
      rw [hn, Bool.true_and] at hform
      have hnm : (n.attrs.map fun p => [PV.val (.string p.1)]).take i = (n.attrs.map (·.1)).map fun s => [PV.val (.string s)] := by
        rw [List.take_of_length_le (by simp; omega), List.map_map]; rfl
      rw [hnm]
      simp [hlt, N.cells]
      refine hC.call [] (f58 tabs n.kind (by omega)) (by simp) ?_
      cases hnk : isName n.kind with
      | false =>
        have : n.form = false := by rw [hform, hnk]; rfl
        refine hC.vc [] 60 ?_
        simp [this]
      | true =>
        rw [hnk, Bool.true_and] at hform
        by_cases ht : n.text = ⟨#[]⟩
        · by_cases hm : n.marks = []
          · simp only [ht, hm, decide_true, Bool.true_and] at hform
            refine hC.vc [] 60 ?_
            simp [N.cells, ht, hm]
            refine hC.call [.can 0] (fun_ownRow (a := []) (b := []) (e := 9) (by simp) rfl (f153 tabs (n.attrs.map (·.1)) fun s hs => by
              obtain ⟨p, hp, rfl⟩ := List.mem_map.1 hs
              exact Nat.le_trans (z4 p hp).1 (by decide))) (by simp) ?_
            cases hr : rise (n.attrs.map (·.1)) with
            | false =>
              have : n.form = false := by rw [hform, hr]; rfl
              refine hC.vc [] 60 ?_
              simp [this]
            | true =>
              rw [hr, Bool.true_and] at hform
              refine hC.vc [] 60 ?_
              simp [N.cells]
              refine go_loop (ι := {i : Nat // i ≤ n.kids.length ∧ N.form.go none n.kids = N.form.go (prevAt n.kids i) (n.kids.drop i)}) (fun x => ⟨[(1, .ptr (.loc 1) 0), (71, .pv (nodes n.kids)), (72, vI n.kids.length), (73, vI x.1)], [(.loc 1, some (.box 87 n.cells))]⟩)
                (fun x => n.kids.length - x.1) ⟨0, by simp [prevAt]⟩ [] (by simp [N.cells, ht, hm]) fun x ih2 => ?_
              obtain ⟨j, hj, hn2⟩ := x
              simp only at hj hn2 ih2
              refine hC.vc [] 60 ?_
              by_cases hlj : j < n.kids.length
              · have hw1 := wr64 ((j : Int) + 1) (by omega)
                rw [List.drop_eq_getElem_cons hlj] at hn2
                simp only [N.form.go] at hn2
                simp [hlj, N.pv_eq, N.cells]
                refine hC.call [] (hrec n.kids[j] (by simp)) (by simp [N.av, N.cells]) ?_
                cases hf : n.kids[j].form with
                | false =>
                  rw [hf, Bool.false_and, Bool.false_and] at hn2
                  have : n.form = false := by rw [hform, hn2]
                  refine hC.vc [] 60 ?_
                  simp [this]
                | true =>
                  rw [hf, Bool.true_and] at hn2
                  refine hC.vc [] 60 ?_
                  by_cases h0 : 0 < j
                  · have hw2 := wr64 ((j : Int) - 1) (by omega)
                    have hj1 : j - 1 < n.kids.length := by omega
                    have e1 : ((j : Int) - 1) = ((j - 1 : Nat) : Int) := by omega
                    have hp : prevAt n.kids j = some n.kids[j - 1] := by
                      unfold prevAt
                      rw [if_neg (by omega), List.getElem?_eq_getElem hj1]
                    rw [hp] at hn2
                    simp only at hn2
                    rw [e1] at hw2
                    simp [h0, hw2, e1, hj1, N.cells, N.pv_eq]
                    refine hC.call [] (f154 tabs n.kids[j - 1] n.kids[j]) (by simp [N.av, N.cells]) ?_
                    cases ha : alike n.kids[j - 1] n.kids[j] with
                    | true =>
                      rw [ha] at hn2
                      have : n.form = false := by rw [hform, hn2]; rfl
                      refine hC.vc [] 60 ?_
                      simp [this]
                    | false =>
                      rw [ha] at hn2
                      refine hC.vc [] 60 ?_
                      simp
                      exact go_to [] (ih2 ⟨j + 1, hlj, by rw [prevAt_succ hlj, hn2]; simp⟩ (by simp; omega)) (by simp [hw1, N.cells])
                  · have hj0 : j = 0 := by omega
                    subst hj0
                    simp only [prevAt, if_true, Bool.true_and] at hn2
                    simp
                    exact go_to [] (ih2 ⟨1, hlj, by rw [hn2]; simp [prevAt, List.getElem?_eq_getElem hlj]⟩ (by simp; omega)) (by simp [wr64 1 (by omega), N.cells])
              · rw [List.drop_eq_nil_of_le (by omega)] at hn2
                simp only [N.form.go] at hn2
                have : n.form = true := by rw [hform, hn2]
                simp [hlj, this]
          · have : n.form = false := by rw [hform]; simp [hm]
            have hml : 0 < n.marks.length := List.length_pos_iff.2 hm
            refine hC.vc [] 60 ?_
            simp [N.cells, ht, hml, this]
        · have : n.form = false := by rw [hform]; simp [ht]
          refine hC.vc [] 60 ?_
          simp [N.cells, ht, this]
termination_by SizeOf.sizeOf n
decreasing_by exact N.kids_lt hx
end Go.Proofs.D
/-
  NODES: how deep, how large; what is wrong with one.
-/
set_option linter.unusedVariables false
set_option linter.unusedSimpArgs false
namespace Go.Proofs.D
open Go Go.Abs Go.RowKit
attribute [local simp] VC VCS stepVS stepTopS firstId memN bigB unmark markT mkOff calmP keepT boundB stepV stepTop stepReg stepOp stMove stPick stBin stUn stConv stBox stAlloc stLoad stStore stFieldAddr stField stExtract stNilCheck stMakeFunc stIndexAddr stIndex stLen
  stBuild placesOf fillA stBuildSlice sliceCells repL chunks allPV toPV drawOk drawOk.go mayMakeO mayMake1 disjoint pairOk Oper.apart Oper.looksAt Op.operands Call.operands Region.binds stAppend appBase appTail unName stSlice bndA
  LS.ev LS.get LS.blk LS.put LS.app LS.upd lkS lkH setS setH Nm.eqb guardOf nexts okPair dstOk AV.cellsOf takeAt putAt lkT sliceE fieldT intK isStrT isBoolT abin newOk LS.freshB LS.freshB.go LS.freshB.goH notIn AV.ments AV.ments.mentsL Blk.ments makes upsMents LS.start startL exitTo T T3 outs callSideO callSideD upsR backO freshAll argB onlyIO List.map List.append List.nil_append List.cons_append Nat.blt
  conv convS convH srcs srcOf blkOk leA leA.leL Go.Abs.leB leP laid laidM laidG isArg subH retP resAV resL res1 AV.frz AV.frz.frzL evL AV.ren AV.ren.renL Blk.ren renBs blksOf allSome nodupB onlyArgs blksMents callUps keyed inName inName.go backName callSide
set_option maxRecDepth 20000 in
theorem f132 (Gl : Granted) (n : N) : Fun Tryz.prog Gl 175 [n.av] [] (vI n.deep) [] := by
  have hrec : ∀ x ∈ n.kids, Fun Tryz.prog Gl 175 [x.av] [] (vI x.deep) [] := fun x hx => f132 Gl x
  refine fun_of (T := T3) (n := 22) (rs := [.tmp 2]) Tryz.func175 (by kernel_rfl) rfl rfl rfl tok3 mixed (by simp) fun C hC => ?_
  have hd := N.deep_eq n
  refine hC.vc [] 60 ?_
  simp [N.av, N.cells]
  refine hC.call [] (f152 Gl n) (by simp [N.av, N.cells]) ?_
  cases hk : n.isText with
  | true =>
    have hkind : n.kind = textK := by simpa [N.isText] using hk
    rw [if_pos hkind] at hd
    refine hC.vc [] 60 ?_
    simp [hd]
  | false =>
    have hkind : ¬ n.kind = textK := by simpa [N.isText] using hk
    rw [if_neg hkind] at hd
    refine hC.vc [] 60 ?_
    simp [N.cells]
    refine go_len 9 5 (n.kids.map N.pv) (by simp) fun hl => ?_
    rw [List.length_map] at hl
    refine go_loop (ι := {x : Nat × Int // x.1 ≤ n.kids.length ∧ N.deep.go n.kids 0 = N.deep.go (n.kids.drop x.1) x.2}) (fun x => ⟨[(3, vI x.1.2), (9, .pv (nodes n.kids)), (10, vI n.kids.length), (11, vI x.1.1)], []⟩)
      (fun x => n.kids.length - x.1.1) ⟨(0, 0), by simp⟩ [] (by simp) fun x ih => ?_
    obtain ⟨⟨i, d⟩, hi, hn⟩ := x
    simp only at hi hn ih
    refine hC.vc [] 60 ?_
    by_cases hlt : i < n.kids.length
    · have hw1 := wr64 ((i : Int) + 1) (by omega)
      rw [List.drop_eq_getElem_cons hlt] at hn
      simp only [N.deep.go] at hn
      simp [hlt, N.pv_eq]
      refine hC.call [] (hrec n.kids[i] (by simp)) (by simp [N.av, N.cells]) ?_
      refine hC.vc [] 2 ?_
      simp
      obtain ⟨m, hm⟩ : ∃ m, m = (if d < n.kids[i].deep then n.kids[i].deep else d) := ⟨_, rfl⟩
      rw [← hm] at hn
      refine hC.max (k := .i64) (a := d) (b := n.kids[i].deep) rfl rfl rfl (by simp) ?_
      rw [show (if n.kids[i].deep > d then n.kids[i].deep else d) = m from hm.symm]
      refine hC.vc [] 60 ?_
      simp
      exact go_to [] (ih ⟨(i + 1, _), hlt, hn⟩ (by simp; omega)) (by simp [hw1])
    · rw [List.drop_eq_nil_of_le (by omega)] at hn
      simp only [N.deep.go] at hn
      simp [hlt, hd, hn]
termination_by SizeOf.sizeOf n
decreasing_by exact N.kids_lt hx
theorem f155k (Gl : Granted) (l : List N) (hrec : ∀ x ∈ l, Fun Tryz.prog Gl 176 [x.av] [] (vI x.size) []) : Fun Tryz.prog Gl 201 [.pv (nodes l)] [] (vI (N.size.go l 0)) [] := by
  refine fun_of (T := T3) (n := 18) (rs := [.tmp 2]) Tryz.func201 (by kernel_rfl) rfl rfl rfl tok3 mixed (by simp) fun C hC => ?_
  refine hC.vc [] 60 ?_
  simp
  refine go_len 0 5 (l.map N.pv) (by simp) fun hl => ?_
  rw [List.length_map] at hl
  refine go_loop (ι := {x : Nat × Int // x.1 ≤ l.length ∧ N.size.go l 0 = N.size.go (l.drop x.1) x.2}) (fun x => ⟨[(3, vI x.1.2), (6, .pv (nodes l)), (7, vI l.length), (8, vI x.1.1)], []⟩)
    (fun x => l.length - x.1.1) ⟨(0, 0), by simp⟩ [] (by simp) fun x ih => ?_
  obtain ⟨⟨i, d⟩, hi, hn⟩ := x
  simp only at hi hn ih
  refine hC.vc [] 60 ?_
  by_cases hlt : i < l.length
  · have hw1 := wr64 ((i : Int) + 1) (by omega)
    rw [List.drop_eq_getElem_cons hlt] at hn
    simp only [N.size.go] at hn
    simp [hlt, N.pv_eq]
    refine hC.call [] (hrec l[i] (by simp)) (by simp [N.av, N.cells]) ?_
    refine hC.vc [] 60 ?_
    simp
    exact go_to [] (ih ⟨(i + 1, _), hlt, hn⟩ (by simp; omega)) (by simp [hw1])
  · rw [List.drop_eq_nil_of_le (by omega)] at hn
    simp only [N.size.go] at hn
    simp [hlt, hn]
set_option maxRecDepth 20000 in
theorem f133 (Gl : Granted) (n : N) (hw : n.wt ≤ 100000) : Fun Tryz.prog Gl 176 [n.av] [] (vI n.size) [] := by
  obtain ⟨z1, z2, z3, z4, z5, z6, z7, z8⟩ := N.lim hw
  have hrec : ∀ x ∈ n.kids, Fun Tryz.prog Gl 176 [x.av] [] (vI x.size) [] := fun x hx => f133 Gl x (z5 x hx)
  refine fun_of (T := T3) (n := 12) (rs := [.tmp 2]) Tryz.func176 (by kernel_rfl) rfl rfl rfl tok3 mixed (by simp) fun C hC => ?_
  have hd := N.size_eq n
  refine hC.vc [] 60 ?_
  simp [N.av, N.cells]
  refine hC.call [] (f152 Gl n) (by simp [N.av, N.cells]) ?_
  cases hk : n.isText with
  | true =>
    have hkind : n.kind = textK := by simpa [N.isText] using hk
    rw [if_pos hkind] at hd
    refine hC.vc [] 60 ?_
    simp [N.cells]
    refine hC.call [] (f149 Gl n.text (by omega)) (by simp) ?_
    refine hC.vc [] 60 ?_
    simp [hd]
  | false =>
    have hkind : ¬ n.kind = textK := by simpa [N.isText] using hk
    rw [if_neg hkind] at hd
    refine hC.vc [] 60 ?_
    simp [N.cells]
    refine hC.call [] (f155k Gl n.kids hrec) (by simp) ?_
    refine hC.vc [] 60 ?_
    simp [hd]
termination_by SizeOf.sizeOf n
decreasing_by exact N.kids_lt hx
theorem f155 (Gl : Granted) (l : List N) (hw : ∀ x ∈ l, x.wt ≤ 100000) : Fun Tryz.prog Gl 201 [.pv (nodes l)] [] (vI (N.size.go l 0)) [] :=
  f155k Gl l fun x hx => f133 Gl x (hw x hx)
theorem f109 (n : N) (hw : n.wt ≤ 100000) : Fun Tryz.prog tabs 148 [n.av] [] (vI n.check) [] := by
  refine fun_of (T := T3) (n := 15) (rs := [.tmp 2]) Tryz.func148 (by kernel_rfl) rfl rfl rfl tok3 mixed (by simp) fun C hC => ?_
  refine hC.vc [] 60 ?_
  simp [N.av, N.cells]
  refine hC.call [] (f131 n hw) (by simp [N.av, N.cells]) ?_
  cases hf : n.form with
  | false =>
    have : n.check = 2 := by simp [N.check, hf]
    refine hC.vc [] 60 ?_
    simp [this]
  | true =>
    refine hC.vc [] 60 ?_
    simp [N.cells]
    refine hC.call [] (f132 tabs n) (by simp [N.av, N.cells]) ?_
    by_cases h1 : 40 < n.deep
    · have : n.check = 4 := by simp [N.check, hf, h1]
      refine hC.vc [] 60 ?_
      simp [h1, this]
    · refine hC.vc [] 60 ?_
      simp [N.cells, h1]
      refine hC.call [] (f133 tabs n hw) (by simp [N.av, N.cells]) ?_
      by_cases h2 : 4000 < n.size
      · have : n.check = 5 := by simp [N.check, hf, h1, h2]
        refine hC.vc [] 60 ?_
        simp [h2, this]
      · have : n.check = 0 := by simp [N.check, hf, h1, h2]
        refine hC.vc [] 60 ?_
        simp [h2, this]
end Go.Proofs.D
/-
  NODES: how one is written.
-/
set_option linter.unusedVariables false
set_option linter.unusedSimpArgs false
namespace Go.Proofs.D
open Go Go.Abs Go.RowKit
attribute [local simp] VC VCS stepVS stepTopS firstId memN bigB unmark markT mkOff calmP keepT boundB stepV stepTop stepReg stepOp stMove stPick stBin stUn stConv stBox stAlloc stLoad stStore stFieldAddr stField stExtract stNilCheck stMakeFunc stIndexAddr stIndex stLen
  stBuild placesOf fillA stBuildSlice sliceCells repL chunks allPV toPV drawOk drawOk.go mayMakeO mayMake1 disjoint pairOk Oper.apart Oper.looksAt Op.operands Call.operands Region.binds stAppend appBase appTail unName stSlice bndA
  LS.ev LS.get LS.blk LS.put LS.app LS.upd lkS lkH setS setH Nm.eqb guardOf nexts okPair dstOk AV.cellsOf takeAt putAt lkT sliceE fieldT intK isStrT isBoolT abin newOk LS.freshB LS.freshB.go LS.freshB.goH notIn AV.ments AV.ments.mentsL Blk.ments makes upsMents LS.start startL exitTo T T3 outs callSideO callSideD upsR backO freshAll argB onlyIO List.map List.append List.nil_append List.cons_append Nat.blt
  conv convS convH srcs srcOf blkOk leA leA.leL Go.Abs.leB leP laid laidM laidG isArg subH retP resAV resL res1 AV.frz AV.frz.frzL evL AV.ren AV.ren.renL Blk.ren renBs blksOf allSome nodupB onlyArgs blksMents callUps keyed inName inName.go backName callSide
theorem join_sep (s : UInt8) (l : List Bs) : Lib.join l [s] = sepBy s l := by
  cases l with
  | nil => rfl
  | cons x r => rw [Lib.join_cons]; simp [sepBy, sepTail, Lib.joinTail, List.flatMap]
theorem joinB_bs (l : List ByteArray) (s : UInt8) : joinB l ⟨#[s]⟩ = bs (sepBy s (l.map (·.data.toList))) := by
  unfold joinB bs
  rw [← join_sep]
def N.head (n : N) : Bs := if n.kind = textK then headT n.marks else n.kind.data.toList ++ headA n.attrs
theorem N.w_head (n : N) : n.w = if n.kind = textK then quoteB n.text.data.toList ++ n.head else n.head ++ 91 :: (N.w.go n.kids ++ [93]) := by
  rw [N.w_eq, N.head]
  split <;> rfl
theorem head_len (n : N) : n.head.length ≤ 4 * n.wt := by
  rw [N.head, N.wt_eq]
  have h1 := headT_len n.marks
  have h2 := headA_len n.attrs
  split
  · omega
  · simp only [List.length_append, bsz]; omega
theorem wt_names {n : N} (h : n.wt ≤ 100000) : names1 n.marks ≤ 100000 ∧ attrs1 n.attrs ≤ 100000 := by
  rw [N.wt_eq] at h
  exact ⟨by omega, by omega⟩
set_option maxRecDepth 20000 in
set_option maxHeartbeats 2000000 in
theorem f134 (n : N) (hw : n.wt ≤ 100000) : Fun Tryz.prog tabs 177 [n.av] [] (vS (bs n.head)) [] := by
  obtain ⟨z1, z2, z3, z4, z5, z6, z7, z8⟩ := N.lim hw
  obtain ⟨y1, y2⟩ := wt_names hw
  have g0 : (⟨#[60]⟩ : ByteArray).size = 1 := rfl
  have g1 : (⟨#[62]⟩ : ByteArray).size = 1 := rfl
  have g2 : (⟨#[40]⟩ : ByteArray).size = 1 := rfl
  have g3 : (⟨#[41]⟩ : ByteArray).size = 1 := rfl
  have g4 : (⟨#[61]⟩ : ByteArray).size = 1 := rfl
  refine fun_of (T := T3) (n := 49) (rs := [.tmp 2]) Tryz.func177 (by kernel_rfl) rfl rfl rfl tok3 mixed (by simp) fun C hC => ?_
  by_cases hk : n.kind = ⟨#[116, 101, 120, 116]⟩
  · have hh : n.head = headT n.marks := by rw [N.head, if_pos (show n.kind = textK from hk)]
    rw [hh] at hC
    by_cases hm : n.marks = []
    · refine hC.vc [] 60 ?_
      simp [N.av, N.cells, hk, hm, headT, bs]
    · have hml : ¬ (n.marks.length : Int) = 0 := by have := List.length_pos_iff.2 hm; omega
      have hml' : ¬ n.marks.length = 0 := by omega
      have hj := joinB_bs n.marks 44
      have hs := sepBy_len 44 (n.marks.map (·.data.toList))
      have hs2 : ((n.marks.map (·.data.toList)).map fun x => 1 + x.length) = n.marks.map fun s => 1 + s.size := by rw [List.map_map]; rfl
      rw [hs2] at hs
      change _ ≤ names1 n.marks at hs
      refine hC.vc [] 60 ?_
      simp [N.av, N.cells, hk, hm]
      refine hC.call [] (f39 tabs n.marks ⟨#[44]⟩ (by omega) (by rw [hj, bs_size]; omega)) (by simp) ?_
      rw [hj]
      have hfin : (⟨#[60]⟩ : ByteArray) ++ bs (sepBy 44 (n.marks.map (·.data.toList))) ++ ⟨#[62]⟩ = bs (headT n.marks) := bsExt (by simp [headT, hm, bs, ByteArray.data_append])
      refine hC.vc [] 60 ?_
      simp [g0, g1, bs_size, hfin]
      omega
  · have hh : n.head = n.kind.data.toList ++ headA n.attrs := by rw [N.head, if_neg (show ¬ n.kind = textK from hk)]
    rw [hh] at hC
    by_cases ha : n.attrs = []
    · have hfin : bs (n.kind.data.toList ++ headA n.attrs) = n.kind := bsExt (by simp [ha, headA, bs])
      rw [hfin] at hC
      refine hC.vc [] 60 ?_
      simp [N.av, N.cells, hk, ha]
    · have hal : ¬ (n.attrs.length : Int) = 0 := by have := List.length_pos_iff.2 ha; omega
      refine hC.vc [] 60 ?_
      simp [N.av, N.cells, hk, ha]
      refine go_loop (ι := {i : Nat // i ≤ n.attrs.length}) (fun x => ⟨[(1, .ptr (.loc 1) 0), (25, .pv (pairs n.attrs)), (26, vI n.attrs.length), (27, vI x.1), (3, .own (.can 0))],
          [(.loc 1, some (.box 87 n.cells)), (.can 0, some (.row 9 1 ((n.attrs.map fun p => [PV.val (.string (bs (attrB p)))]).take x.1)))]⟩)
        (fun x => n.attrs.length - x.1) ⟨0, by simp⟩ [(.can 0, .nil)] (by simp [N.cells]) fun x ih => ?_
      obtain ⟨i, hi⟩ := x
      simp only at hi ih
      refine hC.vc [] 60 ?_
      by_cases hlt : i < n.attrs.length
      · have hw1 := wr64 ((i : Int) + 1) (by omega)
        obtain ⟨p1, p2⟩ := z4 n.attrs[i] (by simp)
        have q2 := quote_len n.attrs[i].2.data.toList
        rw [bsz] at q2
        simp [hlt, N.cells, g4]
        refine ⟨by omega, ?_⟩
        refine hC.call [] (f65 n.attrs[i].2 (by omega)) (by simp) ?_
        have hat : n.attrs[i].1 ++ ⟨#[61]⟩ ++ bs (quoteB n.attrs[i].2.data.toList) = bs (attrB n.attrs[i]) := bsExt (by simp [attrB, bs, ByteArray.data_append])
        refine hC.vc [] 60 ?_
        simp [bs_size, g4, hat]
        refine ⟨by omega, by omega, ?_⟩
        have htk : (n.attrs.map fun p => [PV.val (.string (bs (attrB p)))]).take (i + 1) = (n.attrs.map fun p => [PV.val (.string (bs (attrB p)))]).take i ++ [[.val (.string (bs (attrB n.attrs[i])))]] := by
          rw [List.take_add_one, List.getElem?_map, List.getElem?_eq_getElem hlt]; rfl
        exact go_to [(.can 0, .nm (.loc 40))] (ih ⟨i + 1, hlt⟩ (by simp; omega)) (by simp [hw1, N.cells, htk])
      · have hnm : (n.attrs.map fun p => [PV.val (.string (bs (attrB p)))]).take i = (n.attrs.map fun p => bs (attrB p)).map fun s => [PV.val (.string s)] := by
          rw [List.take_of_length_le (by simp; omega), List.map_map]; rfl
        have hj := joinB_bs (n.attrs.map fun p => bs (attrB p)) 32
        have hj2 : ((n.attrs.map fun p => bs (attrB p)).map (·.data.toList)) = n.attrs.map attrB := by rw [List.map_map]; exact List.map_congr_left fun p _ => bs_list _
        rw [hj2] at hj
        have hs := sepBy_len 32 (n.attrs.map attrB)
        have hs2 := attrs_sum n.attrs
        rw [hnm]
        simp [hlt, N.cells, g2]
        refine ⟨by omega, ?_⟩
        refine hC.call [.can 0] (fun_ownRow (a := []) (b := [vS ⟨#[32]⟩]) (e := 9) (by simp [AV.ments]) rfl (f39 tabs (n.attrs.map fun p => bs (attrB p)) ⟨#[32]⟩ (by simp; omega) (by rw [hj, bs_size]; omega))) (by simp) ?_
        rw [hj]
        have hfin : n.kind ++ ⟨#[40]⟩ ++ bs (sepBy 32 (n.attrs.map attrB)) ++ ⟨#[41]⟩ = bs (n.kind.data.toList ++ headA n.attrs) := bsExt (by simp [headA, ha, bs, ByteArray.data_append])
        refine hC.vc [] 60 ?_
        simp [bs_size, g2, g3, hfin]
        omega
end Go.Proofs.D
/-
  NODES: written into a builder; printed.
-/
set_option linter.unusedVariables false
set_option linter.unusedSimpArgs false
namespace Go.Proofs.D
open Go Go.Abs Go.RowKit
attribute [local simp] VC VCS stepVS stepTopS firstId memN bigB unmark markT mkOff calmP keepT boundB stepV stepTop stepReg stepOp stMove stPick stBin stUn stConv stBox stAlloc stLoad stStore stFieldAddr stField stExtract stNilCheck stMakeFunc stIndexAddr stIndex stLen
  stBuild placesOf fillA stBuildSlice sliceCells repL chunks allPV toPV drawOk drawOk.go mayMakeO mayMake1 disjoint pairOk Oper.apart Oper.looksAt Op.operands Call.operands Region.binds stAppend appBase appTail unName stSlice bndA
  LS.ev LS.get LS.blk LS.put LS.app LS.upd lkS lkH setS setH Nm.eqb guardOf nexts okPair dstOk AV.cellsOf takeAt putAt lkT sliceE fieldT intK isStrT isBoolT abin newOk LS.freshB LS.freshB.go LS.freshB.goH notIn AV.ments AV.ments.mentsL Blk.ments makes upsMents LS.start startL exitTo T T3 outs callSideO callSideD upsR backO freshAll argB onlyIO List.map List.append List.nil_append List.cons_append Nat.blt
  conv convS convH srcs srcOf blkOk leA leA.leL Go.Abs.leB leP laid laidM laidG isArg subH retP resAV resL res1 AV.frz AV.frz.frzL evL AV.ren AV.ren.renL Blk.ren renBs blksOf allSome nodupB onlyArgs blksMents callUps keyed inName inName.go backName callSide
theorem wgo_append : ∀ (l m : List N), N.w.go (l ++ m) = N.w.go l ++ N.w.go m
  | [], m => rfl
  | x :: l, m => by simp only [List.cons_append, N.w.go, wgo_append l m, List.append_assoc]
theorem wtgo_append : ∀ (l m : List N), N.wt.go (l ++ m) = N.wt.go l + N.wt.go m
  | [], m => by simp [N.wt.go]
  | x :: l, m => by simp only [List.cons_append, N.wt.go, wtgo_append l m, Nat.add_assoc]
theorem take_wt (l : List N) (i : Nat) : N.wt.go (l.take i) ≤ N.wt.go l := by
  have := wtgo_append (l.take i) (l.drop i)
  rw [List.take_append_drop] at this
  omega
theorem byteRow_bs (l m : Bs) : byteRow (l ++ (bs m).data.toList) = byteRow (l ++ m) := by rw [bs_list]
set_option maxRecDepth 20000 in
set_option maxHeartbeats 4000000 in
theorem f110 (ad : AV) (l : Bs) (n : N) (had : ad = nilPtr ∨ ad = ptr0) (hw : n.wt ≤ 100000) (hlen : l.length + 4 * n.wt ≤ 100000000) :
    FunO Tryz.prog tabs 149 [ptr0, n.av] [some (bldB ad (.own (.arg 1))), some (bytesB l)] (.tup []) [some (bldB ptr0 (.own (.out 0))), none] [bytesB (l ++ n.w)] := by
  obtain ⟨z1, z2, z3, z4, z5, z6, z7, z8⟩ := N.lim hw
  have hrec : ∀ x ∈ n.kids, ∀ m : Bs, m.length + 4 * x.wt ≤ 100000000 → FunO Tryz.prog tabs 149 [ptr0, x.av] [some (bldB ptr0 (.own (.arg 1))), some (bytesB m)] (.tup []) [some (bldB ptr0 (.own (.out 0))), none] [bytesB (m ++ x.w)] :=
    fun x hx m hm => f110 ptr0 m x (.inr rfl) (z5 x hx) hm
  have hwl := w_len n
  have hhl := head_len n
  have hww := N.w_head n
  refine funO_of (T := T3) (n := 35) (rs := []) Tryz.func149 (by kernel_rfl) rfl rfl rfl tok3 mixed (by simp) fun C hC => ?_
  have had' := had
  rcases had with hA | hA
  all_goals
    by_cases hk : n.kind = ⟨#[116, 101, 120, 116]⟩
    · rw [if_pos (show n.kind = textK from hk)] at hww
      rw [hww] at hC hwl
      rw [List.length_append] at hwl
      refine hC.vc [] 60 ?_
      simp [N.av, N.cells, hk, hA]
      refine hC.call [] (f65 n.text (by omega)) (by simp) ?_
      refine hC.vc [] 60 ?_
      simp [N.cells, hk, hA]
      refine hC.call [] (f134 n hw) (by simp [N.av, N.cells, hk, hA]) ?_
      have hs : bs (quoteB n.text.data.toList) ++ bs n.head = bs (quoteB n.text.data.toList ++ n.head) := bsExt (by simp [bs, ByteArray.data_append])
      refine hC.vc [] 2 ?_
      simp [bs_size, hs, hA]
      refine ⟨by omega, ?_⟩
      have hsz : l.length + (bs (quoteB n.text.data.toList ++ n.head)).size ≤ 140737488355328 := by rw [bs_size, List.length_append]; omega
      refine hC.callD [.arg 0, .arg 1] 16 (f38 tabs ad l (bs (quoteB n.text.data.toList ++ n.head)) had' hsz) (by simp [N.cells, hA]) ?_
      rw [bs_list]
      refine hC.vc [] 1 ?_
      simp
      exact go_to (M := ⟨[], [(.arg 0, some (bldB ptr0 (.own (.out 0)))), (.out 0, some (bytesB (l ++ (quoteB n.text.data.toList ++ n.head))))]⟩) [(.out 0, .nm (.loc 16))] (hC.vc [] 5 (by simp)) (by simp)
    · rw [if_neg (show ¬ n.kind = textK from hk)] at hww
      rw [hww] at hC hwl
      simp only [List.length_append, List.length_cons, List.length_nil] at hwl
      refine hC.vc [] 60 ?_
      simp [N.av, N.cells, hk, hA]
      refine hC.call [] (f134 n hw) (by simp [N.av, N.cells, hk, hA]) ?_
      have g1 : (⟨#[91]⟩ : ByteArray).size = 1 := rfl
      have hs : bs n.head ++ ⟨#[91]⟩ = bs (n.head ++ [91]) := bsExt (by simp [bs, ByteArray.data_append])
      refine hC.vc [] 2 ?_
      simp [bs_size, hs, g1, hA]
      refine ⟨by omega, ?_⟩
      have hsz : l.length + (bs (n.head ++ [91])).size ≤ 140737488355328 := by rw [bs_size, List.length_append]; simp; omega
      refine hC.callO [.arg 0, .arg 1] [.can 0] (f38 tabs ad l (bs (n.head ++ [91])) had' hsz) (by simp [N.cells, hA]) ?_
      rw [bs_list]
      refine hC.vc [] 60 ?_
      simp [N.cells]
      refine go_loop (ι := {i : Nat // i ≤ n.kids.length}) (fun x => ⟨[(0, ptr0), (23, .pv (nodes n.kids)), (24, vI n.kids.length), (25, vI x.1)], [(.arg 0, some (bldB ptr0 (.own (.can 0)))), (.can 0, some (bytesB (l ++ (n.head ++ [91]) ++ N.w.go (n.kids.take x.1))))]⟩)
        (fun x => n.kids.length - x.1) ⟨0, Nat.zero_le _⟩ [] (by simp [N.w.go]) fun x ih => ?_
      obtain ⟨i, hi⟩ := x
      simp only at hi ih
      refine hC.vc [] 60 ?_
      by_cases hlt : i < n.kids.length
      · have hw1 := wr64 ((i : Int) + 1) (by omega)
        have htk : N.w.go (n.kids.take (i + 1)) = N.w.go (n.kids.take i) ++ n.kids[i].w := by
          rw [List.take_add_one, List.getElem?_eq_getElem hlt, wgo_append]
          simp [N.w.go]
        have hg4 := go_len4 (n.kids.take i)
        have hhl2 : n.head.length + 1 + 4 * N.wt.go (n.kids.take i) + 4 * n.kids[i].wt ≤ 4 * n.wt := by
          have h1 := headA_len n.attrs
          have h2 : n.head.length = n.kind.size + (headA n.attrs).length := by
            rw [N.head, if_neg (show ¬ n.kind = textK from hk), List.length_append, bsz]
          have h3 := take_wt n.kids (i + 1)
          rw [List.take_add_one, List.getElem?_eq_getElem hlt, wtgo_append] at h3
          simp only [Option.toList_some, N.wt.go] at h3
          rw [N.wt_eq n]
          omega
        simp [hlt, N.pv_eq]
        refine hC.callO [.arg 0, .can 0] [.can 1] (hrec n.kids[i] (by simp) (l ++ (n.head ++ [91]) ++ N.w.go (n.kids.take i)) (by simp only [List.length_append, List.length_cons, List.length_nil]; omega)) (by simp [N.av, N.cells]) ?_
        refine hC.vc [] 60 ?_
        simp
        exact go_to [(.can 0, .nm (.can 1))] (ih ⟨i + 1, hlt⟩ (by simp; omega)) (by simp [hw1, htk])
      · have htk : n.kids.take i = n.kids := List.take_of_length_le (by omega)
        rw [htk]
        have hg4 := go_len4 n.kids
        have hfin : l ++ (n.head ++ [91]) ++ N.w.go n.kids ++ [93] = l ++ (n.head ++ 91 :: (N.w.go n.kids ++ [93])) := by simp
        simp [hlt]
        refine hC.callO [.arg 0, .can 0] [.out 0] (f38 tabs ptr0 (l ++ (n.head ++ [91]) ++ N.w.go n.kids) ⟨#[93]⟩ (.inr rfl) (by
          have : (⟨#[93]⟩ : ByteArray).size = 1 := rfl
          rw [this]
          simp only [List.length_append, List.length_cons, List.length_nil]; omega)) (by simp) ?_
        rw [show (⟨#[93]⟩ : ByteArray).data.toList = [93] from rfl, hfin]
        refine hC.vc [] 60 ?_
        simp
termination_by SizeOf.sizeOf n
decreasing_by exact N.kids_lt hx
end Go.Proofs.D
/-
  NODES: printed; an entry as a text.
-/
set_option linter.unusedVariables false
set_option linter.unusedSimpArgs false
namespace Go.Proofs.D
open Go Go.Abs Go.RowKit
attribute [local simp] VC VCS stepVS stepTopS firstId memN bigB unmark markT mkOff calmP keepT boundB stepV stepTop stepReg stepOp stMove stPick stBin stUn stConv stBox stAlloc stLoad stStore stFieldAddr stField stExtract stNilCheck stMakeFunc stIndexAddr stIndex stLen
  stBuild placesOf fillA stBuildSlice sliceCells repL chunks allPV toPV drawOk drawOk.go mayMakeO mayMake1 disjoint pairOk Oper.apart Oper.looksAt Op.operands Call.operands Region.binds stAppend appBase appTail unName stSlice bndA
  LS.ev LS.get LS.blk LS.put LS.app LS.upd lkS lkH setS setH Nm.eqb guardOf nexts okPair dstOk AV.cellsOf takeAt putAt lkT sliceE fieldT intK isStrT isBoolT abin newOk LS.freshB LS.freshB.go LS.freshB.goH notIn AV.ments AV.ments.mentsL Blk.ments makes upsMents LS.start startL exitTo T T3 outs callSideO callSideD upsR backO freshAll argB onlyIO List.map List.append List.nil_append List.cons_append Nat.blt
  conv convS convH srcs srcOf blkOk leA leA.leL Go.Abs.leB leP laid laidM laidG isArg subH retP resAV resL res1 AV.frz AV.frz.frzL evL AV.ren AV.ren.renL Blk.ren renBs blksOf allSome nodupB onlyArgs blksMents callUps keyed inName inName.go backName callSide
theorem rep_nodes {w : World} {F : Nat → Prop} {hd : Nm → Hd} {a b e : AV} {c : Value} (h : Rep w F hd (.agg [a, b, .pv (.nilS 1), .pv (.nilS 2), e]) c) : Rep w F hd (.agg [a, b, .pv (strs []), .pv (pairs []), e]) c := by
  cases h with
  | agg _ cs hl hh h1 =>
    refine .agg _ cs hl (fun j x v hj hv => ?_) h1
    match j, hj with
    | 0, hj => exact hh 0 x v hj hv
    | 1, hj => exact hh 1 x v hj hv
    | 2, hj => simp at hj; subst hj; exact rep_nil (hh 2 _ v rfl hv)
    | 3, hj => simp at hj; subst hj; exact rep_nil (hh 3 _ v rfl hv)
    | 4, hj => exact hh 4 x v hj hv
/-- A node of nil lists. -/
theorem fun_nils {P : Program} {Gl : Granted} {g : FuncId} {a b e : AV} {rest : List AV} {v : AV} (h : Fun P Gl g (.agg [a, b, .pv (strs []), .pv (pairs []), e] :: rest) [] v []) : Fun P Gl g (.agg [a, b, .pv (.nilS 1), .pv (.nilS 2), e] :: rest) [] v [] :=
  fun_args h (by simp) fun j x y hx hy w F hd c hc => by
    match j, hx, hy with
    | 0, hx, hy => simp at hx hy; subst hx hy; exact rep_nodes hc
    | j + 1, hx, hy => simp at hx hy; rw [hx] at hy; cases hy; exact hc
def N.said (n : N) : ByteArray := if n.check = 0 then bs n.w else ⟨#[]⟩
theorem f89 (n : N) (hw : n.wt ≤ 100000) : Fun Tryz.prog tabs 116 [n.av] [] (.tup [vS n.said, vI n.check]) [] := by
  refine fun_of (T := T3) (n := 14) (rs := [.tmp 2, .tmp 3]) Tryz.func116 (by kernel_rfl) rfl rfl rfl tok3 mixed (by simp) fun C hC => ?_
  refine hC.vc [] 60 ?_
  simp [N.av, N.cells]
  refine hC.call [] (f109 n hw) (by simp [N.av, N.cells]) ?_
  by_cases hc : n.check = 0
  · have hs : n.said = bs n.w := by rw [N.said, if_pos hc]
    rw [hs] at hC
    refine hC.vc [] 60 ?_
    simp [hc, N.cells]
    refine hC.callO [.loc 5] [.can 0] (funO_nil (ty := 91) (e := 5) (c0 := nilPtr) (cs := []) (by simp [N.av, N.cells, AV.ments, AV.ments.mentsL]) (by simp [AV.ments]) (f110 nilPtr [] n (.inl rfl) hw (by simp; omega))) (by simp [N.av, N.cells]) ?_
    refine hC.vc [] 60 ?_
    simp
    refine hC.call [.loc 5, .can 0] (f40 tabs ptr0 n.w (.inr rfl)) (by simp) ?_
    refine hC.vc [] 60 ?_
    simp [bs, hc]
  · have hs : n.said = ⟨#[]⟩ := by rw [N.said, if_neg hc]
    rw [hs] at hC
    refine hC.vc [] 60 ?_
    simp [hc]
def saidAll (l : List N) : ByteArray := if (xOf l).check = 0 then bs (N.w.go l) else ⟨#[]⟩
theorem x_w (l : List N) : (xOf l).w = 120 :: 91 :: (N.w.go l ++ [93]) := by
  have hk : ¬ (xOf l).kind = textK := by
    intro e
    have h1 : (xOf l).kind = ⟨#[120]⟩ := rfl
    rw [h1] at e
    exact absurd (congrArg ByteArray.size e) (by decide)
  rw [N.w_eq, if_neg hk]
  rfl
theorem f66 (l : List N) (hw : (xOf l).wt ≤ 100000) : Fun Tryz.prog tabs 70 [.pv (nodes l)] [] (.tup [vS (saidAll l), vI (xOf l).check]) [] := by
  refine fun_of (T := T3) (n := 20) (rs := [.tmp 2, .tmp 3]) Tryz.func70 (by kernel_rfl) rfl rfl rfl tok3 mixed (by simp) fun C hC => ?_
  refine hC.vc [] 60 ?_
  simp
  refine hC.call [] (fun_nils (f89 (xOf l) hw)) (by simp [N.av, N.cells, xOf, N.kind, N.text, N.marks, N.attrs, N.kids]) ?_
  by_cases hc : (xOf l).check = 0
  · have hs : (xOf l).said = bs (120 :: 91 :: (N.w.go l ++ [93])) := by rw [N.said, if_pos hc, x_w]
    have hs2 : saidAll l = bs (N.w.go l) := by rw [saidAll, if_pos hc]
    have hl := w_len (xOf l)
    rw [x_w] at hl
    simp only [List.length_cons, List.length_append, List.length_nil] at hl
    have hsz : (bs (120 :: 91 :: (N.w.go l ++ [93]))).size = (N.w.go l).length + 3 := by rw [bs_size]; simp
    have hw1 : wr .i64 (((N.w.go l).length : Int) + 3 - 1) = ((N.w.go l).length : Int) + 2 := by rw [wr64 _ (by omega)]; omega
    have hex : (bs (120 :: 91 :: (N.w.go l ++ [93]))).extract 2 ((N.w.go l).length + 2) = bs (N.w.go l) := bsExt (by
      simp [bs, ByteArray.data_extract])
    have e1 : (((N.w.go l).length : Int) + 2).toNat = (N.w.go l).length + 2 := by omega
    rw [hs2] at hC
    rw [hs]
    refine hC.vc [] 60 ?_
    simp [hc, hsz, hw1, e1, hex]
    omega
  · have hs : (xOf l).said = ⟨#[]⟩ := by rw [N.said, if_neg hc]
    have hs2 : saidAll l = ⟨#[]⟩ := by rw [saidAll, if_neg hc]
    rw [hs2] at hC
    refine hC.vc [] 60 ?_
    simp [hc]
end Go.Proofs.D
/-
  COMPLEMENTS: an entry as a text; all of one.
-/
set_option linter.unusedVariables false
set_option linter.unusedSimpArgs false
namespace Go.Proofs.D
open Go Go.Abs Go.RowKit
attribute [local simp] VC VCS stepVS stepTopS firstId memN bigB unmark markT mkOff calmP keepT boundB stepV stepTop stepReg stepOp stMove stPick stBin stUn stConv stBox stAlloc stLoad stStore stFieldAddr stField stExtract stNilCheck stMakeFunc stIndexAddr stIndex stLen
  stBuild placesOf fillA stBuildSlice sliceCells repL chunks allPV toPV drawOk drawOk.go mayMakeO mayMake1 disjoint pairOk Oper.apart Oper.looksAt Op.operands Call.operands Region.binds stAppend appBase appTail unName stSlice bndA
  LS.ev LS.get LS.blk LS.put LS.app LS.upd lkS lkH setS setH Nm.eqb guardOf nexts okPair dstOk AV.cellsOf takeAt putAt lkT sliceE fieldT intK isStrT isBoolT abin newOk LS.freshB LS.freshB.go LS.freshB.goH notIn AV.ments AV.ments.mentsL Blk.ments makes upsMents LS.start startL exitTo T T3 outs callSideO callSideD upsR backO freshAll argB onlyIO List.map List.append List.nil_append List.cons_append Nat.blt
  conv convS convH srcs srcOf blkOk leA leA.leL Go.Abs.leB leP laid laidM laidG isArg subH retP resAV resL res1 AV.frz AV.frz.frzL evL AV.ren AV.ren.renL Blk.ren renBs blksOf allSome nodupB onlyArgs blksMents callUps keyed inName inName.go backName callSide
def Ent.txt (e : Ent) : ByteArray := if e.has = true then (if saidAll e.rest = ⟨#[]⟩ then bs (61 :: quoteB e.value.data.toList) else bs (61 :: (quoteB e.value.data.toList ++ 91 :: ((saidAll e.rest).data.toList ++ [93])))) else ⟨#[45]⟩
theorem x_wt (l : List N) : (xOf l).wt = 2 + N.wt.go l := by
  rw [N.wt_eq]
  simp only [xOf, N.kind, N.text, N.marks, N.attrs, N.kids, names1, attrs1, List.map_nil, List.sum_nil]
  have h1 : (⟨#[120]⟩ : ByteArray).size = 1 := rfl
  have h0 : (⟨#[]⟩ : ByteArray).size = 0 := rfl
  omega
theorem txt_ok {e : Ent} (h : e.ok = true) : e.txt = bs e.w := by
  unfold Ent.ok at h
  unfold Ent.txt Ent.w
  cases hh : e.has with
  | false => simp; rfl
  | true =>
    rw [hh] at h
    simp only [if_true, Bool.and_eq_true, decide_eq_true_eq] at h ⊢
    have hs : saidAll e.rest = bs (N.w.go e.rest) := by rw [saidAll, if_pos h.2]
    rw [hs, bs_list]
    by_cases h0 : N.w.go e.rest = []
    · rw [if_pos h0, h0, if_pos (by rfl)]; simp
    · rw [if_neg h0, if_neg (fun e => h0 (by have := congrArg (fun s : ByteArray => s.data.toList) e; simpa [bs] using this))]
set_option maxRecDepth 20000 in
set_option maxHeartbeats 2000000 in
theorem f37 (e : Ent) (hw : e.wt ≤ 90000) : Fun Tryz.prog tabs 34 [e.av] [] (.tup [vS e.txt, vB e.ok]) [] := by
  have hv : e.value.size ≤ 90000 := by unfold Ent.wt at hw; omega
  have hg : N.wt.go e.rest ≤ 90000 := by unfold Ent.wt at hw; omega
  have hx : (xOf e.rest).wt ≤ 100000 := by rw [x_wt]; omega
  have hsl : (saidAll e.rest).size ≤ 400000 := by
    unfold saidAll
    split
    · rw [bs_size]; have := go_len4 e.rest; omega
    · exact Nat.zero_le _
  have hql := quote_len e.value.data.toList
  rw [bsz] at hql
  have g0 : (⟨#[61]⟩ : ByteArray).size = 1 := rfl
  have g1 : (⟨#[91]⟩ : ByteArray).size = 1 := rfl
  have g2 : (⟨#[93]⟩ : ByteArray).size = 1 := rfl
  refine fun_of (T := T3) (n := 37) (rs := [.tmp 2, .tmp 3]) Tryz.func34 (by kernel_rfl) rfl rfl rfl tok3 mixed (by simp) fun C hC => ?_
  cases hh : e.has with
  | false =>
    have h1 : e.txt = ⟨#[45]⟩ := by simp [Ent.txt, hh]
    have h2 : e.ok = e.none := by simp [Ent.ok, hh]
    rw [h1, h2] at hC
    refine hC.vc [] 60 ?_
    simp [Ent.av, Ent.cells, hh]
    refine hC.call [] (f64 tabs e) (by simp [Ent.av, Ent.cells, hh]) ?_
    refine hC.vc [] 60 ?_
    simp
  | true =>
    have h2 : e.ok = (value e.value && decide ((xOf e.rest).check = 0)) := by simp [Ent.ok, hh]
    rw [h2] at hC
    refine hC.vc [] 60 ?_
    simp [Ent.av, Ent.cells, hh]
    refine hC.call [] (f65 e.value (by omega)) (by simp) ?_
    have hq : (⟨#[61]⟩ : ByteArray) ++ bs (quoteB e.value.data.toList) = bs (61 :: quoteB e.value.data.toList) := bsExt (by simp [bs, ByteArray.data_append])
    refine hC.vc [] 60 ?_
    simp [Ent.cells, g0, bs_size, hq]
    refine ⟨by omega, ?_⟩
    refine hC.call [] (f66 e.rest hx) (by simp) ?_
    by_cases h0 : saidAll e.rest = ⟨#[]⟩
    · have h1 : e.txt = bs (61 :: quoteB e.value.data.toList) := by simp [Ent.txt, hh, h0]
      rw [h1] at hC
      refine hC.vc [] 60 ?_
      simp [Ent.cells, h0]
      refine hC.call [] (f67 e.value (by omega)) (by simp) ?_
      refine hC.vc [] 60 ?_
      cases hvv : value e.value <;> simp
    · have h1 : e.txt = bs (61 :: (quoteB e.value.data.toList ++ 91 :: ((saidAll e.rest).data.toList ++ [93]))) := by simp [Ent.txt, hh, h0]
      have hfin : bs (61 :: quoteB e.value.data.toList) ++ (⟨#[91]⟩ ++ saidAll e.rest ++ ⟨#[93]⟩) = e.txt := by rw [h1]; exact bsExt (by simp [bs, ByteArray.data_append])
      refine hC.vc [] 60 ?_
      simp [Ent.cells, h0, g1, g2, bs_size, hfin]
      refine ⟨by omega, by omega, by omega, ?_⟩
      refine hC.call [] (f67 e.value (by omega)) (by simp) ?_
      refine hC.vc [] 60 ?_
      cases hvv : value e.value <;> simp
end Go.Proofs.D
