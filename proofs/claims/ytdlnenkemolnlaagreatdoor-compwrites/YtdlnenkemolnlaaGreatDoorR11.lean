/-
  THE ANSWER TO CHAPTERS 2 AND 15: how nodes, entries and complements are written.
-/
import Derived.Test.YtdlnenkemolnlaaGreatDoorR5
import Derived.Test.YtdlnenkemolnlaaGreatDoorT1
import Derived.Test.YtdlnenkemolnlaaGreatDoorK18
import Derived.Test.YtdlnenkemolnlaaGreatDoorK22
set_option linter.unusedVariables false
set_option linter.unusedSimpArgs false
namespace Go.Proofs.D
open Go Go.Abs Go.RowKit
attribute [local simp] VC VCS stepVS stepTopS firstId memN bigB unmark markT mkOff calmP keepT boundB stepV stepTop stepReg stepOp stMove stPick stBin stUn stConv stBox stAlloc stLoad stStore stFieldAddr stField stExtract stNilCheck stMakeFunc stIndexAddr stIndex stLen
  stBuild placesOf fillA stBuildSlice sliceCells repL chunks allPV toPV drawOk drawOk.go mayMakeO mayMake1 disjoint pairOk Oper.apart Oper.looksAt Op.operands Call.operands Region.binds stAppend appBase appTail unName stSlice bndA
  LS.ev LS.get LS.blk LS.put LS.app LS.upd lkS lkH setS setH Nm.eqb guardOf nexts okPair dstOk AV.cellsOf takeAt putAt lkT sliceE fieldT intK isStrT isBoolT abin newOk LS.freshB LS.freshB.go LS.freshB.goH notIn AV.ments AV.ments.mentsL Blk.ments makes upsMents LS.start startL exitTo T T3 T4 outs callSideR callSideO callSideD upsR backO freshAll argB onlyIO List.map List.append List.nil_append List.cons_append Nat.blt
  conv convS convH srcs srcOf blkOk leA leA.leL Go.Abs.leB leP laid laidM isArg subH retP resAV resL res1 AV.frz AV.frz.frzL evL AV.ren AV.ren.renL Blk.ren renBs blksOf allSome nodupB onlyArgs blksMents callUps keyed inName inName.go backName callSide
theorem wgo_take {l : List N} {i : Nat} (h : i < l.length) : N.w.go (l.take (i + 1)) = N.w.go (l.take i) ++ l[i].w := by
  rw [take_snoc h, wgo_append]
  simp [N.w.go]
set_option maxRecDepth 20000 in
theorem g78k (Gl : Granted) (l : List N) (hw : N.wt.go l ≤ 100000) (hrec : ∀ x ∈ l, Fun Tryz.prog Gl 123 [x.av] [] (vS (bs x.w)) []) : Fun Tryz.prog Gl 78 [.pv (nodes l)] [] (vS (bs (N.w.go l))) [] := by
  have hle := go_len_wt l
  have k0 : (⟨#[]⟩ : ByteArray) = bs [] := rfl
  refine fun_of (T := T4) (n := 19) (rs := [.tmp 2]) Tryz.func78 (by kernel_rfl) rfl rfl rfl tok4 mixed (by simp) fun C hC => ?_
  refine hC.go [] 60 ?_
  simp
  refine go_loop (ι := {i : Nat // i ≤ l.length}) (fun x => ⟨[(0, .pv (nodes l)), (3, vS (bs (N.w.go (l.take x.1)))), (4, vI x.1)], []⟩) (fun x => l.length - x.1) ⟨0, by simp⟩ [] (by simp [N.w.go, k0]) fun x ih => ?_
  obtain ⟨i, hi⟩ := x
  simp only at hi ih
  by_cases hlt : i < l.length
  · have hw1 := wr64 ((i : Int) + 1) (by omega)
    have hx := wgo_take hlt
    have q1 := go_len4 (l.take i)
    have q2 := take_wt l i
    have q3 := w_len l[i]
    have q4 := wt_kid (l := l) (x := l[i]) (by simp)
    refine hC.go [] 60 ?_
    simp [hlt, N.pv_eq]
    refine hC.call [] (hrec l[i] (by simp)) (by simp [N.av, N.cells]) ?_
    refine hC.go [] 60 ?_
    simp [bs_app, bsl]
    repeat (refine ⟨by omega, ?_⟩)
    exact go_to [] (ih ⟨i + 1, hlt⟩ (by simp; omega)) (by simp [hw1, hx])
  · have htk : l.take i = l := List.take_of_length_le (by omega)
    rw [htk]
    refine hC.go [] 60 ?_
    simp [hlt]
set_option maxRecDepth 20000 in
theorem g123 (Gl : Granted) (n : N) (hw : n.wt ≤ 100000) : Fun Tryz.prog Gl 123 [n.av] [] (vS (bs n.w)) [] := by
  obtain ⟨z1, z2, z3, z4, z5, z6, z7, z8⟩ := N.lim hw
  have hrec : ∀ x ∈ n.kids, Fun Tryz.prog Gl 123 [x.av] [] (vS (bs x.w)) [] := fun x hx => g123 Gl x (z5 x hx)
  have hww := N.w_head n
  have hhl := head_len n
  have hwl := w_len n
  have hgo : N.wt.go n.kids ≤ 100000 := by rw [N.wt_eq] at hw; omega
  refine fun_of (T := T4) (n := 20) (rs := [.tmp 2]) Tryz.func123 (by kernel_rfl) rfl rfl rfl tok4 mixed (by simp) fun C hC => ?_
  by_cases hk : n.kind = ⟨#[116, 101, 120, 116]⟩
  · rw [if_pos (show n.kind = textK from hk)] at hww
    rw [hww, List.length_append] at hwl
    rw [hww] at hC
    refine hC.go [] 60 ?_
    simp [N.av, N.cells, hk]
    refine hC.drawn (by kernel_rfl) (by simp) ?_
    refine hC.go [] 60 ?_
    simp
    refine hC.call [] (g77 Gl n.text (by omega)) (by simp) ?_
    refine hC.go [] 60 ?_
    simp
    refine hC.call [] (g151 Gl n hw) (by simp [N.av, N.cells, hk]) ?_
    refine hC.go [] 60 ?_
    simp [bs_app, bsl]
    omega
  · rw [if_neg (show ¬ n.kind = textK from hk)] at hww
    rw [hww] at hC
    rw [hww] at hwl
    simp only [List.length_append, List.length_cons, List.length_nil] at hwl
    have k1 : (⟨#[91]⟩ : ByteArray) = bs [91] := rfl
    have k2 : (⟨#[93]⟩ : ByteArray) = bs [93] := rfl
    refine hC.go [] 60 ?_
    simp [N.av, N.cells, hk]
    refine hC.drawn (by kernel_rfl) (by simp) ?_
    refine hC.go [] 60 ?_
    simp
    refine hC.call [] (g151 Gl n hw) (by simp [N.av, N.cells, hk]) ?_
    refine hC.go [] 60 ?_
    simp [bs_app, bsl, k1]
    repeat (refine ⟨by omega, ?_⟩)
    refine hC.call [] (g78k Gl n.kids hgo hrec) (by simp) ?_
    refine hC.go [] 60 ?_
    simp [bs_app, bsl, k2]
    repeat (refine ⟨by omega, ?_⟩)
    omega
termination_by SizeOf.sizeOf n
decreasing_by exact N.kids_lt hx
theorem g78 (Gl : Granted) (l : List N) (hw : N.wt.go l ≤ 100000) : Fun Tryz.prog Gl 78 [.pv (nodes l)] [] (vS (bs (N.w.go l))) [] := g78k Gl l hw fun x hx => g123 Gl x (by have := wt_kid hx; omega)
theorem g40 (Gl : Granted) (e : Ent) (hw : e.wt ≤ 90000) (hok : e.ok = true) : Fun Tryz.prog Gl 40 [e.av] [] (vS (bs e.w)) [] := by
  have hv : e.value.size ≤ 90000 := by unfold Ent.wt at hw; omega
  have hg : N.wt.go e.rest ≤ 90000 := by unfold Ent.wt at hw; omega
  have hql := quote_len e.value.data.toList
  rw [bsz] at hql
  have hgl := go_len4 e.rest
  have k0 : (⟨#[61]⟩ : ByteArray) = bs [61] := rfl
  have k1 : (⟨#[91]⟩ : ByteArray) = bs [91] := rfl
  have k2 : (⟨#[93]⟩ : ByteArray) = bs [93] := rfl
  have k3 : (⟨#[45]⟩ : ByteArray) = bs [45] := rfl
  refine fun_of (T := T4) (n := 23) (rs := [.tmp 2]) Tryz.func40 (by kernel_rfl) rfl rfl rfl tok4 mixed (by simp) fun C hC => ?_
  cases hh : e.has with
  | false =>
    have h1 : e.w = [45] := by simp [Ent.w, hh]
    rw [h1] at hC
    refine hC.go [] 60 ?_
    simp [Ent.av, Ent.cells, hh, k3]
  | true =>
    simp only [Ent.ok, hh, if_true, Bool.and_eq_true, decide_eq_true_eq] at hok
    have hf := go_nil (x_form (check_form hok.2))
    refine hC.go [] 60 ?_
    simp [Ent.av, Ent.cells, hh]
    refine hC.call [] (g77 Gl e.value (by omega)) (by simp) ?_
    by_cases h0 : e.rest = []
    · have h1 : e.w = 61 :: quoteB e.value.data.toList := by rw [Ent.w, if_pos hh, if_pos (hf.2 h0)]; simp
      rw [h1] at hC
      refine hC.go [] 60 ?_
      simp [Ent.cells, h0, k0, bs_app, bsl]
      omega
    · have h1 : e.w = 61 :: (quoteB e.value.data.toList ++ 91 :: (N.w.go e.rest ++ [93])) := by rw [Ent.w, if_pos hh, if_neg (fun h => h0 (hf.1 h))]
      have hl : 0 < e.rest.length := List.length_pos_iff.2 h0
      rw [h1] at hC
      refine hC.go [] 60 ?_
      simp [Ent.cells, hl, k0, k1, bs_app, bsl]
      repeat (refine ⟨by omega, ?_⟩)
      refine hC.call [] (g78 Gl e.rest (by omega)) (by simp) ?_
      refine hC.go [] 60 ?_
      simp [k2, bs_app, bsl]
      omega
end Go.Proofs.D
/-
  THE ANSWER TO CHAPTER 15: how a complement is written.
-/
set_option linter.unusedVariables false
set_option linter.unusedSimpArgs false
namespace Go.Proofs.D
open Go Go.Abs Go.RowKit
attribute [local simp] VC VCS stepVS stepTopS firstId memN bigB unmark markT mkOff calmP keepT boundB stepV stepTop stepReg stepOp stMove stPick stBin stUn stConv stBox stAlloc stLoad stStore stFieldAddr stField stExtract stNilCheck stMakeFunc stIndexAddr stIndex stLen
  stBuild placesOf fillA stBuildSlice sliceCells repL chunks allPV toPV drawOk drawOk.go mayMakeO mayMake1 disjoint pairOk Oper.apart Oper.looksAt Op.operands Call.operands Region.binds stAppend appBase appTail unName stSlice bndA
  LS.ev LS.get LS.blk LS.put LS.app LS.upd lkS lkH setS setH Nm.eqb guardOf nexts okPair dstOk AV.cellsOf takeAt putAt lkT sliceE fieldT intK isStrT isBoolT abin newOk LS.freshB LS.freshB.go LS.freshB.goH notIn AV.ments AV.ments.mentsL Blk.ments makes upsMents LS.start startL exitTo T T3 T4 outs callSideR callSideO callSideD upsR backO freshAll argB onlyIO List.map List.append List.nil_append List.cons_append Nat.blt
  conv convS convH srcs srcOf blkOk leA leA.leL Go.Abs.leB leP laid laidM isArg subH retP resAV resL res1 AV.frz AV.frz.frzL evL AV.ren AV.ren.renL Blk.ren renBs blksOf allSome nodupB onlyArgs blksMents callUps keyed inName inName.go backName callSide
theorem value_nil : value ⟨#[]⟩ = true := by
  have h : utfOk ⟨#[]⟩ = true := by
    unfold utfOk
    exact Lib.validD_nil
  simp only [value, h, Bool.and_true, decide_eq_true_eq]
  decide
theorem check_nil : (xOf []).check = 0 := by
  have hk : ¬ (xOf []).kind = textK := by decide
  have h1 : (xOf []).form = true := by
    rw [N.form_eq, if_neg hk]
    have : isName (⟨#[120]⟩ : ByteArray) = true := by decide +kernel
    simp [xOf, N.attrs, N.kind, N.text, N.marks, N.kids, N.form.go, rise, riseFrom, this]
  have h2 : (xOf []).deep = 1 := by
    rw [N.deep_eq, if_neg hk]
    exact wr64 1 (by omega)
  have h3 : (xOf []).size = 2 := by
    rw [N.size_eq, if_neg hk]
    exact wr64 2 (by omega)
  simp [N.check, h1, h2, h3]
theorem comp_take_len (c : Cm) (i : Nat) (h : i < c.length) : (compB (c.take i)).length + (lineB c[i]).length ≤ 6 * compWt c := by
  have hll := line_len c[i]
  have hcw := comp_len (c.take i)
  have hcw2 : compWt (c.take i) + slotWt c[i] ≤ compWt c := by
    have h1 := compWt_append (c.take (i + 1)) (c.drop (i + 1))
    rw [List.take_append_drop, List.take_add_one, List.getElem?_eq_getElem h, compWt_append] at h1
    simp only [Option.toList_some] at h1
    have : compWt [c[i]] = slotWt c[i] := by simp [compWt]
    omega
  omega
theorem sepTail_append (s : UInt8) (a b : List Bs) : sepTail s (a ++ b) = sepTail s a ++ sepTail s b := by simp [sepTail]
theorem sepBy_take (s : UInt8) (l : List Bs) (i : Nat) : (sepBy s (l.take i)).length ≤ (sepBy s l).length := by
  cases i with
  | zero => simp [sepBy]
  | succ i =>
    cases l with
    | nil => simp
    | cons x r =>
      have : sepTail s r = sepTail s (r.take i) ++ sepTail s (r.drop i) := by rw [← sepTail_append, List.take_append_drop]
      simp only [List.take_succ_cons, sepBy, List.length_append, this]
      omega
set_option maxRecDepth 20000 in
set_option maxHeartbeats 4000000 in
theorem g10 (Gl : Granted) (c : Cm) (hw : compWt c ≤ 90000) : Fun Tryz.prog Gl 10 [.pv (comp c)] [] (.tup [vS (printC c), vI (printE c)]) [] := by
  have hcl := comp_lens c
  have k0 : (⟨#[]⟩ : ByteArray) = bs [] := rfl
  have k1 : (⟨#[32]⟩ : ByteArray) = bs [32] := rfl
  have k2 : (⟨#[10]⟩ : ByteArray) = bs [10] := rfl
  refine fun_of (T := T4) (n := 68) (rs := [.tmp 2, .tmp 3]) Tryz.func10 (by kernel_rfl) rfl rfl rfl tok4 mixed (by simp) fun C hC => ?_
  refine hC.go [] 60 ?_
  simp
  refine go_loop (ι := {i : Nat // i ≤ c.length ∧ okC c = okC (c.drop i)}) (fun x => ⟨[(0, .pv (comp c)), (4, vS (bs (compB (c.take x.1)))), (5, vI x.1)], []⟩)
    (fun x => c.length - x.1) ⟨0, by simp⟩ [] (by simp [compB, k0]) fun x ih => ?_
  obtain ⟨i, hi, hn⟩ := x
  simp only at hi hn ih
  by_cases hlt : i < c.length
  · have hw1 := wr64 ((i : Int) + 1) (by omega)
    have hctl := comp_take_len c i hlt
    have hct := compB_take hlt
    obtain ⟨l, hl⟩ : ∃ l, c[i] = l := ⟨_, rfl⟩
    have hsm := slot_mem (c := c) (l := l) (by rw [← hl]; simp)
    have hsl := slot_lens l
    rw [List.drop_eq_getElem_cons hlt, hl] at hn
    rw [hl] at hctl hct
    generalize compB (c.take i) = P at hctl hct
    refine hC.go [] 60 ?_
    simp [hlt]
    refine go_loop (ι := {j : Nat // j ≤ l.length ∧ l.all Ent.ok = (l.drop j).all Ent.ok}) (fun x => ⟨[(0, .pv (comp c)), (4, vS (bs (P ++ sepBy 32 ((l.map Ent.w).take x.1)))), (5, vI i), (6, vI x.1)], []⟩)
      (fun x => l.length - x.1) ⟨0, by simp⟩ [] (by simp [sepBy]) fun x ih2 => ?_
    obtain ⟨j, hj, hn2⟩ := x
    simp only at hj hn2 ih2
    have hst := sepBy_take 32 (l.map Ent.w) j
    have hst2 := sepBy_take 32 (l.map Ent.w) (j + 1)
    have hlb : (lineB l).length = (sepBy 32 (l.map Ent.w)).length + 1 := by simp [lineB]
    by_cases hlj : j < l.length
    · have hw2 := wr64 ((j : Int) + 1) (by omega)
      obtain ⟨e, he⟩ : ∃ e, l[j] = e := ⟨_, rfl⟩
      have hem := ent_mem (l := l) (e := e) (by rw [← he]; simp)
      have hv : e.value.size ≤ 90000 := by unfold Ent.wt at hem; omega
      have hg : N.wt.go e.rest ≤ 90000 := by unfold Ent.wt at hem; omega
      have hx : (xOf e.rest).wt ≤ 100000 := by rw [x_wt]; omega
      rw [List.drop_eq_getElem_cons hlj, List.all_cons, he] at hn2
      have hbad : e.ok = false → printC c = ⟨#[]⟩ ∧ printE c = 2 := fun h => by
        have : okC c = false := by
          rw [hn]
          simp only [okC, List.all_cons, hn2, h, Bool.false_and]
        simp [printC, printE, this]
      have htk := take_row Ent.w hlj
      rw [he] at htk
      have hck := fun_nils (g39 Gl (xOf e.rest) hx)
      have hcases : (e.has = false ∧ ¬ e.value = ⟨#[]⟩) ∨ (e.has = false ∧ e.value = ⟨#[]⟩ ∧ 0 < e.rest.length) ∨ (e.has = false ∧ e.value = ⟨#[]⟩ ∧ ¬ 0 < e.rest.length ∧ value e.value = true ∧ (xOf e.rest).check = 0) ∨ (e.has = true ∧ True ∧ True ∧ True ∧ True) := by
        cases hh : e.has with
        | true => simp
        | false =>
          by_cases h1 : e.value = ⟨#[]⟩
          · by_cases h2 : 0 < e.rest.length
            · simp [h1, h2]
            · have : e.rest = [] := List.eq_nil_of_length_eq_zero (by omega)
              simp [h1, this, value_nil, check_nil]
          · simp [h1]
      rcases hcases with ⟨hh, h1⟩ | ⟨hh, h1, h2⟩ | hrest
      · obtain ⟨p1, p2⟩ := hbad (by simp [Ent.ok, hh, Ent.none, h1])
        refine hC.go [] 100 ?_
        simp [hlt, hl, hlj, he, Ent.pv_eq', hh, h1, p1, p2]
      · obtain ⟨p1, p2⟩ := hbad (by simp [Ent.ok, hh, Ent.none, h1]; intro h; rw [h] at h2; simp at h2)
        refine hC.go [] 100 ?_
        simp [hlt, hl, hlj, he, Ent.pv_eq', hh, h1, h2, p1, p2]
      · have hokv : e.ok = (value e.value && decide ((xOf e.rest).check = 0)) := by
          rcases hrest with ⟨hh, h1, h2, h3, h4⟩ | ⟨hh, _⟩
          · have : e.rest.length = 0 := by omega
            simp [Ent.ok, hh, Ent.none, h1, this, h3, h4]
            rw [h1] at h3
            exact h3
          · simp [Ent.ok, hh]
        rcases hrest with ⟨hh, h1, h2, h3, h4⟩ | ⟨hh, h1, h2, h3, h4⟩
        all_goals
          have h1p := eq_true h1
          clear h1
          refine hC.go [] 60 ?_
          simp [hlt, hl, hlj, he, Ent.pv_eq', hh, h1p, h2]
          refine hC.call [] (g38 Gl e.value (by omega)) (by simp) ?_
          cases hvv : value e.value with
          | false =>
            obtain ⟨p1, p2⟩ := hbad (by rw [hokv, hvv]; rfl)
            refine hC.go [] 60 ?_
            simp [p1, p2]
          | true =>
            rw [hvv, Bool.true_and] at hokv
            refine hC.go [] 60 ?_
            simp
            refine hC.call [] hck (by simp [xOf, N.kind, N.text, N.kids]) ?_
            by_cases hc0 : (xOf e.rest).check = 0
            · have hok : e.ok = true := by rw [hokv]; simp [hc0]
              have hwr := g40 Gl e (by omega) hok
              have hel := entw_len e
              rw [hok, Bool.true_and] at hn2
              by_cases h0 : 0 < j
              · have hne : ¬ (l.map Ent.w).take j = [] := by
                  intro e
                  have := congrArg List.length e
                  rw [List.length_take, List.length_map, List.length_nil] at this
                  omega
                have hfin : sepBy 32 ((l.map Ent.w).take (j + 1)) = sepBy 32 ((l.map Ent.w).take j) ++ 32 :: e.w := by rw [htk, sepBy_snoc, if_neg hne]
                generalize sepBy 32 ((l.map Ent.w).take j) = Q at hfin hst ⊢
                refine hC.go [] 60 ?_
                simp [hc0, h0, k1, bs_app, bsl]
                repeat (refine ⟨by omega, ?_⟩)
                refine hC.call [] hwr (by simp [Ent.av, Ent.cells, hh]) ?_
                refine hC.go [] 60 ?_
                simp [bs_app, bsl]
                repeat (refine ⟨by omega, ?_⟩)
                exact go_to [] (ih2 ⟨j + 1, hlj, hn2⟩ (by simp; omega)) (by simp [hw2, hfin])
              · have e0 : sepBy 32 ((l.map Ent.w).take j) = [] := by rw [show j = 0 by omega]; rfl
                have hfin : sepBy 32 ((l.map Ent.w).take (j + 1)) = e.w := by rw [htk, sepBy_snoc, if_pos (by rw [show j = 0 by omega]; rfl)]
                rw [e0]
                refine hC.go [] 60 ?_
                simp [hc0, h0]
                refine hC.call [] hwr (by simp [Ent.av, Ent.cells, hh]) ?_
                refine hC.go [] 60 ?_
                simp [bs_app, bsl]
                repeat (refine ⟨by omega, ?_⟩)
                exact go_to [] (ih2 ⟨j + 1, hlj, hn2⟩ (by simp; omega)) (by simp [hw2, hfin])
            · obtain ⟨p1, p2⟩ := hbad (by rw [hokv]; simp [hc0])
              refine hC.go [] 60 ?_
              simp [hc0, p1, p2]
    · rw [List.drop_eq_nil_of_le (by omega), List.all_nil] at hn2
      have htk : (l.map Ent.w).take j = l.map Ent.w := List.take_of_length_le (by simp; omega)
      have hfin : P ++ sepBy 32 (l.map Ent.w) ++ [10] = P ++ lineB l := by simp [lineB]
      have hn' : okC c = okC (c.drop (i + 1)) := by rw [hn]; simp only [okC, List.all_cons, hn2, Bool.true_and]
      rw [htk]
      refine hC.go [] 100 ?_
      simp [hlt, hl, hlj, k2, bs_app, bsl]
      repeat (refine ⟨by omega, ?_⟩)
      exact go_to [] (ih ⟨i + 1, hlt, hn'⟩ (by simp; omega)) (by simp [hw1, hct, lineB])
  · have htk : c.take i = c := List.take_of_length_le (by omega)
    rw [List.drop_eq_nil_of_le (by omega)] at hn
    have hk : okC c = true := by rw [hn]; rfl
    have h1 : printC c = bs (compB c) := by rw [printC, if_pos hk]
    have h2 : printE c = 0 := by rw [printE, if_pos hk]
    rw [h1, h2] at hC
    rw [htk]
    refine hC.go [] 100 ?_
    simp [hlt]
end Go.Proofs.D
/-
  THE ANSWER'S READER: its signs, and letters.
-/
set_option linter.unusedVariables false
set_option linter.unusedSimpArgs false
namespace Go.Proofs.D
open Go Go.Abs Go.RowKit
attribute [local simp] VC VCS stepVS stepTopS firstId memN bigB unmark markT mkOff calmP keepT boundB stepV stepTop stepReg stepOp stMove stPick stBin stUn stConv stBox stAlloc stLoad stStore stFieldAddr stField stExtract stNilCheck stMakeFunc stIndexAddr stIndex stLen
  stBuild placesOf fillA stBuildSlice sliceCells repL chunks allPV toPV drawOk drawOk.go mayMakeO mayMake1 disjoint pairOk Oper.apart Oper.looksAt Op.operands Call.operands Region.binds stAppend appBase appTail unName stSlice bndA
  LS.ev LS.get LS.blk LS.put LS.app LS.upd lkS lkH setS setH Nm.eqb guardOf nexts okPair dstOk AV.cellsOf takeAt putAt lkT sliceE fieldT intK isStrT isBoolT abin newOk LS.freshB LS.freshB.go LS.freshB.goH notIn AV.ments AV.ments.mentsL Blk.ments makes upsMents LS.start startL exitTo T T3 T4 outs callSideR callSideO callSideD upsR backO freshAll argB onlyIO List.map List.append List.nil_append List.cons_append Nat.blt
  conv convS convH srcs srcOf blkOk leA leA.leL Go.Abs.leB leP laid laidM isArg subH retP resAV resL res1 AV.frz AV.frz.frzL evL AV.ren AV.ren.renL Blk.ren renBs blksOf allSome nodupB onlyArgs blksMents callUps keyed inName inName.go backName callSide
/-- Where the reader is, of whose text l is left. -/
def ix (S l : Bs) : Nat := S.length - l.length
/-- The reader: its text, where it is, is it bad? -/
abbrev rdA (S l : Bs) (b : Bool) : Blk := .box 214 [vS (bs S), vI (ix S l), vB b]
theorem suf_at {S l : Bs} {c : UInt8} {t : Bs} (h : l <:+ S) (hl : l = c :: t) : ix S l < S.length ∧ byteAt (bs S) (ix S l : Int) = (c.toNat : Int) ∧ ix S t = ix S l + 1 ∧ t <:+ S := by
  obtain ⟨p, hp⟩ := h
  subst hl
  unfold ix
  have hlen : S.length = p.length + (t.length + 1) := by rw [← hp]; simp
  have hlt : S.length - (c :: t).length < S.length := by simp; omega
  have hi : S.length - (c :: t).length = p.length := by simp; omega
  refine ⟨hlt, ?_, by simp; omega, ⟨p ++ [c], by rw [← hp]; simp⟩⟩
  have h1 := byteAt_of (l := S) (i := S.length - (c :: t).length) hlt
  have h2 : S[S.length - (c :: t).length]'hlt = c := by
    have : S[S.length - (c :: t).length]? = some c := by rw [hi, ← hp]; simp
    rw [List.getElem?_eq_getElem hlt] at this
    exact Option.some.inj this
  rw [h2] at h1
  exact h1
theorem ix_nil (S : Bs) : ix S [] = S.length := by simp [ix]
theorem ix_le (S l : Bs) : ix S l ≤ S.length := Nat.sub_le _ _
theorem suf_tail {S : Bs} {c : UInt8} {t : Bs} (h : c :: t <:+ S) : t <:+ S := (suf_at h rfl).2.2.2
theorem g203 (Gl : Granted) (S l : Bs) (b : Bool) (c : UInt8) (z : Int) (hz : z = (c.toNat : Int)) (hl : l <:+ S) : Fun Tryz.prog Gl 203 [.ptr (.arg 0) 0, .pv (.val (.int .u8 z))] [some (rdA S l b)] (vB (headIs c l)) [some (rdA S l b)] := by
  refine fun_of (T := T4) (n := 28) (rs := [.tmp 4]) Tryz.func203 (by kernel_rfl) rfl rfl rfl tok4 mixed (by simp) fun C hC => ?_
  refine hC.go [] 60 ?_
  simp
  refine hC.drawn (by kernel_rfl) (by simp) ?_
  cases l with
  | nil =>
    refine hC.go [] 60 ?_
    simp [headIs, bsl, ix_nil]
  | cons x t =>
    obtain ⟨h1, h2, h3, h4⟩ := suf_at hl rfl
    have hh : headIs c (x :: t) = decide (byteAt (bs S) (ix S (x :: t) : Int) = z) := by
      simp only [headIs]
      rw [h2, hz]
      exact decide_eq_decide.2 ⟨fun h => by rw [h], fun h => UInt8.toNat_inj.1 (by omega)⟩
    refine hC.go [] 60 ?_
    simp [bsl, h1, hh]
theorem takes_head (c : UInt8) (l : Bs) : (takesB c l).1 = headIs c l := headIs_takes c l
theorem head_cons {c : UInt8} {l : Bs} (h : headIs c l = true) : ∃ t, l = c :: t := by
  cases l with
  | nil => simp [headIs] at h
  | cons x t => simp [headIs] at h; exact ⟨t, by rw [h]⟩
theorem want_not {c : UInt8} {l : Bs} (b : Bool) (h : headIs c l = false) : wantB c (l, b) = (l, true) := by
  have h1 : (takesB c l).1 = false := by rw [takes_head, h]
  have h2 := takes_false c l h1
  simp [wantB, h1, h2]
/-- A sign that must stand there. -/
theorem g205 (Gl : Granted) (S l : Bs) (b : Bool) (c : UInt8) (z : Int) (hz : z = (c.toNat : Int)) (hl : l <:+ S) (hS : S.length ≤ 1000000) : Fun Tryz.prog Gl 205 [.ptr (.arg 0) 0, .pv (.val (.int .u8 z))] [some (rdA S l b)] (.tup []) [some (rdA S (wantB c (l, b)).1 (wantB c (l, b)).2)] := by
  refine fun_of (T := T4) (n := 17) (rs := []) Tryz.func205 (by kernel_rfl) rfl rfl rfl tok4 mixed (by simp) fun C hC => ?_
  refine hC.go [] 60 ?_
  simp
  refine hC.call [.arg 0] (g203 Gl S l b c z hz hl) (by simp) ?_
  cases hh : headIs c l with
  | false =>
    rw [want_not b hh] at hC
    refine hC.go [] 60 ?_
    simp
  | true =>
    obtain ⟨t, rfl⟩ := head_cons hh
    obtain ⟨h1, h2, h3, h4⟩ := suf_at hl rfl
    rw [want_hit] at hC
    have hw := wr64 ((ix S (c :: t) : Int) + 1) (by omega)
    refine hC.go [] 60 ?_
    simp [hw, h3]
/-- The letters that stand there. -/
theorem low_lit (x : UInt8) : low8 x = (decide (97 ≤ (x.toNat : Int)) && decide ((x.toNat : Int) ≤ 122)) := by
  unfold low8
  congr 1
  · exact decide_eq_decide.2 (by omega)
  · exact decide_eq_decide.2 (by omega)
set_option maxRecDepth 20000 in
set_option maxHeartbeats 4000000 in
theorem g206 (Gl : Granted) (S l : Bs) (b : Bool) (hl : l <:+ S) (hS : S.length ≤ 1000000) : Fun Tryz.prog Gl 206 [.ptr (.arg 0) 0] [some (rdA S l b)] (vS (bs (nameB l).1)) [some (rdA S (nameB l).2 b)] := by
  have hex : ∀ p m : Bs, l = p ++ m → (bs S).extract (ix S l) (ix S m) = bs p := fun p m h => by
    obtain ⟨q, hq⟩ := hl
    have e1 : ix S l = q.length := by unfold ix; rw [← hq]; simp
    have e2 : ix S m = q.length + p.length := by unfold ix; rw [← hq, h]; simp; omega
    refine bsExt ?_
    rw [e1, e2, ← hq, h]
    simp [bs, ByteArray.data_extract]
  refine fun_of (T := T4) (n := 59) (rs := [.tmp 2]) Tryz.func206 (by kernel_rfl) rfl rfl rfl tok4 mixed (by simp) fun C hC => ?_
  refine hC.go [] 60 ?_
  simp
  refine go_loop (ι := {m : Bs // m <:+ S ∧ ∃ p, l = p ++ m ∧ nameB l = (p ++ (nameB m).1, (nameB m).2)}) (fun x => ⟨[(0, .ptr (.arg 0) 0), (3, vI (ix S l))], [(.arg 0, some (rdA S x.1 b))]⟩)
    (fun x => x.1.length) ⟨l, hl, [], by simp⟩ [] (by simp) fun x ih => ?_
  obtain ⟨m, hm, p, hp, hn⟩ := x
  simp only at ih
  have hxp := hex p m hp
  have hil := ix_le S m
  have hil2 : ix S l ≤ ix S m := by
    unfold ix
    have := congrArg List.length hp
    simp at this
    omega
  cases m with
  | nil =>
    have hn' : nameB l = (p, []) := by rw [hn]; simp [nameB]
    rw [hn'] at hC
    rw [ix_nil] at hxp hil2
    refine hC.go [] 60 ?_
    simp
    refine hC.drawn (by kernel_rfl) (by simp) ?_
    refine hC.go [] 60 ?_
    simp [bsl, ix_nil]
    refine hC.drawn (by kernel_rfl) (by simp) ?_
    refine hC.go [] 60 ?_
    simp [bsl, ix_nil, hxp]
    omega
  | cons x t =>
    obtain ⟨h1, h2, h3, h4⟩ := suf_at hm rfl
    have hw := wr64 ((ix S (x :: t) : Int) + 1) (by omega)
    have hlo := low_lit x
    rw [← h2] at hlo
    refine hC.go [] 60 ?_
    simp
    refine hC.drawn (by kernel_rfl) (by simp) ?_
    by_cases e1 : 97 ≤ byteAt (bs S) (ix S (x :: t) : Int)
    · by_cases e2 : byteAt (bs S) (ix S (x :: t) : Int) ≤ 122
      · have hlow : low8 x = true := by rw [hlo]; simp [e1, e2]
        have hn2 : nameB l = ((p ++ [x]) ++ (nameB t).1, (nameB t).2) := by rw [hn]; simp [nameB, hlow]
        refine hC.go [] 60 ?_
        simp [bsl, h1, e1, e2, hw]
        exact go_to [] (ih ⟨t, h4, p ++ [x], by rw [hp]; simp, hn2⟩ (by simp)) (by simp [h3])
      · have hlow : low8 x = false := by rw [hlo]; simp [e2]
        have hn' : nameB l = (p, x :: t) := by rw [hn]; simp [nameB, hlow]
        rw [hn'] at hC
        refine hC.go [] 60 ?_
        simp [bsl, h1, e1, e2]
        refine hC.drawn (by kernel_rfl) (by simp) ?_
        refine hC.go [] 60 ?_
        simp [bsl, hxp]
        omega
    · have hlow : low8 x = false := by rw [hlo]; simp [e1]
      have hn' : nameB l = (p, x :: t) := by rw [hn]; simp [nameB, hlow]
      rw [hn'] at hC
      refine hC.go [] 60 ?_
      simp [bsl, h1, e1]
      refine hC.drawn (by kernel_rfl) (by simp) ?_
      refine hC.go [] 60 ?_
      simp [bsl, hxp]
      omega
end Go.Proofs.D
/-
  THE ANSWER'S READER: a text between quotes.
-/
set_option linter.unusedVariables false
set_option linter.unusedSimpArgs false
namespace Go.Proofs.D
open Go Go.Abs Go.RowKit
attribute [local simp] VC VCS stepVS stepTopS firstId memN bigB unmark markT mkOff calmP keepT boundB stepV stepTop stepReg stepOp stMove stPick stBin stUn stConv stBox stAlloc stLoad stStore stFieldAddr stField stExtract stNilCheck stMakeFunc stIndexAddr stIndex stLen
  stBuild placesOf fillA stBuildSlice sliceCells repL chunks allPV toPV drawOk drawOk.go mayMakeO mayMake1 disjoint pairOk Oper.apart Oper.looksAt Op.operands Call.operands Region.binds stAppend appBase appTail unName stSlice bndA
  LS.ev LS.get LS.blk LS.put LS.app LS.upd lkS lkH setS setH Nm.eqb guardOf nexts okPair dstOk AV.cellsOf takeAt putAt lkT sliceE fieldT intK isStrT isBoolT abin newOk LS.freshB LS.freshB.go LS.freshB.goH notIn AV.ments AV.ments.mentsL Blk.ments makes upsMents LS.start startL exitTo T T3 T4 outs callSideR callSideO callSideD upsR backO freshAll argB onlyIO List.map List.append List.nil_append List.cons_append Nat.blt
  conv convS convH srcs srcOf blkOk leA leA.leL Go.Abs.leB leP laid laidM isArg subH retP resAV resL res1 AV.frz AV.frz.frzL evL AV.ren AV.ren.renL Blk.ren renBs blksOf allSome nodupB onlyArgs blksMents callUps keyed inName inName.go backName callSide
theorem ix_ext {S l : Bs} (hl : l <:+ S) (p m : Bs) (h : l = p ++ m) : (bs S).extract (ix S l) (ix S m) = bs p := by
  obtain ⟨q, hq⟩ := hl
  have e1 : ix S l = q.length := by unfold ix; rw [← hq]; simp
  have e2 : ix S m = q.length + p.length := by unfold ix; rw [← hq, h]; simp; omega
  refine bsExt ?_
  rw [e1, e2, ← hq, h]
  simp [bs, ByteArray.data_extract]
theorem want_suf {S l : Bs} (c : UInt8) (b : Bool) (h : l <:+ S) : (wantB c (l, b)).1 <:+ S := by
  simp only [wantB]
  cases l with
  | nil => simp [takesB]
  | cons x t =>
    simp only [takesB]
    split
    · exact suf_tail h
    · exact h
set_option maxRecDepth 20000 in
set_option maxHeartbeats 4000000 in
theorem g204 (Gl : Granted) (S l : Bs) (b : Bool) (hl : l <:+ S) (hS : S.length ≤ 1000000) : Fun Tryz.prog Gl 204 [.ptr (.arg 0) 0] [some (rdA S l b)] (vS (bs (quotedR (l, b)).1)) [some (rdA S (quotedR (l, b)).2.1 (quotedR (l, b)).2.2)] := by
  have k0 : (⟨#[]⟩ : ByteArray) = bs [] := rfl
  have hq : quotedR (l, b) = if (wantB 34 (l, b)).2 = true then ([], wantB 34 (wantB 34 (l, b))) else match quotedGo (wantB 34 (l, b)).1 [] with
    | some (s, r) => (s, (r, false))
    | none => ([], ([], true)) := rfl
  have c34 : ((34 : UInt8).toNat : Int) = 34 := rfl
  have c92 : ((92 : UInt8).toNat : Int) = 92 := rfl
  refine fun_of (T := T4) (n := 64) (rs := [.tmp 2]) Tryz.func204 (by kernel_rfl) rfl rfl rfl tok4 mixed (by simp) fun C hC => ?_
  refine hC.go [] 60 ?_
  simp
  refine hC.call [.arg 0] (g205 Gl S l b 34 34 c34.symm hl hS) (by simp) ?_
  have hl1 := want_suf 34 b hl
  generalize wantB 34 (l, b) = st at hq hl1 ⊢
  obtain ⟨l1, b1⟩ := st
  simp only at hq hl1 ⊢
  cases b1 with
  | true =>
    rw [if_pos rfl] at hq
    rw [hq] at hC
    refine hC.go [] 60 ?_
    simp
    refine go_first ?_
    refine hC.go [] 60 ?_
    simp
    refine hC.call [.arg 0] (g205 Gl S l1 true 34 34 c34.symm hl1 hS) (by simp) ?_
    refine hC.go [] 60 ?_
    simp [k0]
  | false =>
    rw [if_neg (by simp)] at hq
    refine hC.go [] 60 ?_
    simp
    refine go_loop (ι := {x : Bs × Bs // x.1 <:+ S ∧ quotedGo l1 [] = quotedGo x.1 x.2 ∧ x.2.length + x.1.length ≤ S.length}) (fun x => ⟨[(0, .ptr (.arg 0) 0), (3, vS (bs x.1.2))], [(.arg 0, some (rdA S x.1.1 false))]⟩)
      (fun x => x.1.1.length) ⟨(l1, []), hl1, rfl, by simpa using hl1.length_le⟩ [] (by simp [k0]) fun x ih => ?_
    obtain ⟨⟨m, s⟩, hm, hn, hsz⟩ := x
    simp only at hm hn hsz ih
    rw [hn] at hq
    refine hC.go [] 60 ?_
    simp
    refine hC.call [.arg 0] (g203 Gl S m false 34 34 c34.symm hm) (by simp) ?_
    cases m with
    | nil =>
      simp only [quotedGo] at hq
      rw [hq] at hC
      refine hC.go [] 60 ?_
      simp [headIs]
      refine hC.call [.arg 0] (g203 Gl S [] false 92 92 c92.symm hm) (by simp) ?_
      refine hC.go [] 60 ?_
      simp [headIs]
      refine hC.drawn (by kernel_rfl) (by simp) ?_
      refine hC.go [] 60 ?_
      simp [bsl, ix_nil, k0]
    | cons c t =>
      obtain ⟨h1, h2, h3, h4⟩ := suf_at hm rfl
      by_cases hc : c = 34
      · subst hc
        have hr : quotedR (l, b) = (s, (t, false)) := by
          rw [hq]
          cases t <;> simp [quotedGo]
        rw [hr] at hC
        refine hC.go [] 60 ?_
        simp [headIs]
        refine hC.call [.arg 0] (g205 Gl S (34 :: t) false 34 34 c34.symm hm hS) (by simp) ?_
        rw [want_hit]
        refine hC.go [] 60 ?_
        simp
      · have hh : headIs 34 (c :: t) = false := by simp [headIs, hc]
        refine hC.go [] 60 ?_
        simp [hh]
        refine hC.call [.arg 0] (g203 Gl S (c :: t) false 92 92 c92.symm hm) (by simp) ?_
        by_cases hc2 : c = 92
        · subst hc2
          cases t with
          | nil =>
            have hqg : quotedGo [92] s = none := by simp [quotedGo]
            rw [hqg] at hq
            rw [hq] at hC
            rw [ix_nil] at h3
            have h3' : (ix S [92] : Int) + 1 = S.length := by omega
            have hw := wr64 (S.length : Int) (by omega)
            refine hC.go [] 60 ?_
            simp [headIs, h3', hw]
            refine hC.drawn (by kernel_rfl) (by simp) ?_
            refine hC.go [] 60 ?_
            simp [bsl, ix_nil, k0]
          | cons d t =>
            obtain ⟨j1, j2, j3, j4⟩ := suf_at h4 rfl
            have hqg : quotedGo (92 :: d :: t) s = quotedGo t (s ++ [d]) := by simp [quotedGo]
            rw [hqg] at hn
            have hex := ix_ext h4 [d] t rfl
            have h3' : (ix S (92 :: d :: t) : Int) + 1 = ix S (d :: t) := by omega
            have hw := wr64 (ix S (d :: t) : Int) (by omega)
            have j3' : (ix S (d :: t) : Int) + 1 = ix S t := by omega
            have hw2 := wr64 (ix S t : Int) (by omega)
            have hxl := ix_le S t
            have hge : ¬ S.length ≤ ix S (d :: t) := by omega
            have hle : ix S (d :: t) ≤ ix S t := by omega
            simp only [List.length_cons] at hsz
            refine hC.go [] 60 ?_
            simp [headIs, hw, h3']
            refine hC.drawn (by kernel_rfl) (by simp) ?_
            refine hC.go [] 60 ?_
            simp [bsl, hge]
            refine hC.drawn (by kernel_rfl) (by simp) ?_
            refine hC.go [] 60 ?_
            simp [bsl, hw2, j3', hex, bs_app]
            repeat (refine ⟨by omega, ?_⟩)
            exact go_to [] (ih ⟨(t, s ++ [d]), j4, hn, by simp; omega⟩ (by simp; omega)) (by simp)
        · have hh2 : headIs 92 (c :: t) = false := by simp [headIs, hc2]
          have hqg : quotedGo (c :: t) s = quotedGo t (s ++ [c]) := by
            cases t with
            | nil => simp [quotedGo, hc]
            | cons d t => simp [quotedGo, hc, hc2]
          rw [hqg] at hn
          have hex := ix_ext hm [c] t rfl
          have h3' : (ix S (c :: t) : Int) + 1 = ix S t := by omega
          have hw2 := wr64 (ix S t : Int) (by have := ix_le S t; omega)
          have hxl := ix_le S t
          have hge : ¬ S.length ≤ ix S (c :: t) := by omega
          have hle : ix S (c :: t) ≤ ix S t := by omega
          simp only [List.length_cons] at hsz
          refine hC.go [] 60 ?_
          simp [hh2]
          refine hC.drawn (by kernel_rfl) (by simp) ?_
          refine hC.go [] 60 ?_
          simp [bsl, hge]
          refine hC.drawn (by kernel_rfl) (by simp) ?_
          refine hC.go [] 60 ?_
          simp [bsl, hw2, h3', hex, bs_app]
          repeat (refine ⟨by omega, ?_⟩)
          exact go_to [] (ih ⟨(t, s ++ [c]), h4, hn, by simp; omega⟩ (by simp)) (by simp)
end Go.Proofs.D
/-
  THE ANSWER'S READER: all nodes that stand there.
-/
set_option linter.unusedVariables false
set_option linter.unusedSimpArgs false
namespace Go.Proofs.D
open Go Go.Abs Go.RowKit
attribute [local simp] VC VCS stepVS stepTopS firstId memN bigB unmark markT mkOff calmP keepT boundB stepV stepTop stepReg stepOp stMove stPick stBin stUn stConv stBox stAlloc stLoad stStore stFieldAddr stField stExtract stNilCheck stMakeFunc stIndexAddr stIndex stLen
  stBuild placesOf fillA stBuildSlice sliceCells repL chunks allPV toPV drawOk drawOk.go mayMakeO mayMake1 disjoint pairOk Oper.apart Oper.looksAt Op.operands Call.operands Region.binds stAppend appBase appTail unName stSlice bndA
  LS.ev LS.get LS.blk LS.put LS.app LS.upd lkS lkH setS setH Nm.eqb guardOf nexts okPair dstOk AV.cellsOf takeAt putAt lkT sliceE fieldT intK isStrT isBoolT abin newOk LS.freshB LS.freshB.go LS.freshB.goH notIn AV.ments AV.ments.mentsL Blk.ments makes upsMents LS.start startL exitTo T T3 T4 outs callSideR callSideO callSideD upsR backO freshAll argB onlyIO List.map List.append List.nil_append List.cons_append Nat.blt
  conv convS convH srcs srcOf blkOk leA leA.leL Go.Abs.leB leP laid laidM isArg subH retP resAV resL res1 AV.frz AV.frz.frzL evL AV.ren AV.ren.renL Blk.ren renBs blksOf allSome nodupB onlyArgs blksMents callUps keyed inName inName.go backName callSide
def zN : N := .mk ⟨#[]⟩ ⟨#[]⟩ [] [] []
/-- What a node at this depth comes to. -/
def NodeC (Gl : Granted) (S : Bs) (k : Nat) : Prop := ∀ l : Bs, l <:+ S → Fun Tryz.prog Gl 183 [.ptr (.arg 0) 0, vI k] [some (rdA S l false)] (nodeR k (l, false)).1.av [some (rdA S (nodeR k (l, false)).2.1 (nodeR k (l, false)).2.2)]
set_option maxRecDepth 20000 in
set_option maxHeartbeats 4000000 in
theorem g207 (Gl : Granted) (S : Bs) (hS : S.length ≤ 1000000) (k : Nat) (hN : NodeC Gl S k) (l : Bs) (b : Bool) (hl : l <:+ S) :
    Fun Tryz.prog Gl 207 [.ptr (.arg 0) 0, vI k] [some (rdA S l b)] (.pv (nodes (kidsF (nodeR k) (l.length + 1) (l, b)).1)) [some (rdA S (kidsF (nodeR k) (l.length + 1) (l, b)).2.1 (kidsF (nodeR k) (l.length + 1) (l, b)).2.2)] := by
  have c93 : ((93 : UInt8).toNat : Int) = 93 := rfl
  obtain ⟨K, hK⟩ : ∃ K, kidsF (nodeR k) (l.length + 1) (l, b) = K := ⟨_, rfl⟩
  rw [hK]
  refine fun_of (T := T4) (n := 35) (rs := [.tmp 4]) Tryz.func207 (by kernel_rfl) rfl rfl rfl tok4 mixed (by simp) fun C hC => ?_
  refine hC.go [] 60 ?_
  simp
  refine go_loop (ι := {x : List N × Bs × Bool × Nat // x.2.1 <:+ S ∧ K = (x.1 ++ (kidsF (nodeR k) x.2.2.2 (x.2.1, x.2.2.1)).1, (kidsF (nodeR k) x.2.2.2 (x.2.1, x.2.2.1)).2) ∧ (x.2.2.1 = false → x.2.1.length < x.2.2.2 ∧ x.1.length + x.2.1.length ≤ S.length) ∧ x.1.length ≤ S.length + 1})
    (fun x => ⟨[(0, .ptr (.arg 0) 0), (1, vI k), (5, .own (.can 0))], [(.arg 0, some (rdA S x.1.2.1 x.1.2.2.1)), (.can 0, some (.row 87 5 (x.1.1.map N.pv)))]⟩)
    (fun x => if x.1.2.2.1 = true then 0 else x.1.2.1.length + 1) ⟨([], l, b, l.length + 1), hl, by simp [← hK], fun _ => ⟨by simp, by simpa using hl.length_le⟩, by simp⟩ [(.can 0, .nil)] (by simp) fun x ih => ?_
  obtain ⟨⟨acc, m, bb, j⟩, hm, hn, hj, ha⟩ := x
  simp only at hm hn hj ha ih
  refine hC.go [] 60 ?_
  simp
  refine hC.drawn (by kernel_rfl) (by simp) ?_
  have stop : stopK (m, bb) = true → K = (acc, (m, bb)) := fun h => by
    rw [hn]
    cases j with
    | zero => simp [kidsF]
    | succ j => simp [kidsF, h]
  cases bb with
  | true =>
    rw [stop rfl] at hC
    refine hC.go [] 60 ?_
    simp
  | false =>
    cases m with
    | nil =>
      rw [stop rfl] at hC
      refine hC.go [] 60 ?_
      simp [ix_nil, bsl]
    | cons c t =>
      obtain ⟨h1, h2, h3, h4⟩ := suf_at hm rfl
      have h1' : (ix S (c :: t) : Int) < S.length := by omega
      refine hC.go [] 60 ?_
      simp [bsl, h1]
      refine hC.callR [.arg 0] (g203 Gl S (c :: t) false 93 93 c93.symm hm) (by simp) ?_
      by_cases hc : c = 93
      · rw [stop (by simp [stopK, hc])] at hC
        refine hC.go [] 60 ?_
        simp [headIs, hc]
      · have hs : stopK (c :: t, false) = false := by simp [stopK, hc]
        obtain ⟨hj1, hj2⟩ := hj rfl
        obtain ⟨j, rfl⟩ : ∃ j', j = j' + 1 := ⟨j - 1, by omega⟩
        simp only [kidsF, hs, Bool.false_eq_true, if_false] at hn
        have hsuf := nodeR_suf k (c :: t, false)
        have hsh := @nodeR_short k (c :: t)
        have hcall := hN (c :: t) hm
        generalize nodeR k (c :: t, false) = nr at hn hsuf hsh hcall
        obtain ⟨n, ⟨m', b'⟩⟩ := nr
        simp only at hn hsuf hsh hcall
        simp only [List.length_cons] at hj1 hj2 hsh
        have hlen := hsuf.length_le
        simp only [List.length_cons] at hlen
        refine hC.go [] 60 ?_
        simp [headIs, hc]
        refine hC.call [.arg 0] hcall (by simp [N.av, N.cells]) ?_
        refine hC.go [] 60 ?_
        simp [N.av, N.cells]
        refine ⟨by omega, ?_⟩
        exact go_to [(.can 0, .nm (.loc 33))] (ih ⟨(acc ++ [n], m', b', j), hsuf.trans hm, by rw [hn]; simp, fun h => by have := hsh h; simp; omega, by simp; omega⟩ (by
          cases b' with
          | true => simp
          | false => have := hsh rfl; simp; omega)) (by simp [N.pv_eq])
end Go.Proofs.D
/-
  THE ANSWER'S READER: the node that stands there.
-/
set_option linter.unusedVariables false
set_option linter.unusedSimpArgs false
namespace Go.Proofs.D
open Go Go.Abs Go.RowKit
attribute [local simp] VC VCS stepVS stepTopS firstId memN bigB unmark markT mkOff calmP keepT boundB stepV stepTop stepReg stepOp stMove stPick stBin stUn stConv stBox stAlloc stLoad stStore stFieldAddr stField stExtract stNilCheck stMakeFunc stIndexAddr stIndex stLen
  stBuild placesOf fillA stBuildSlice sliceCells repL chunks allPV toPV drawOk drawOk.go mayMakeO mayMake1 disjoint pairOk Oper.apart Oper.looksAt Op.operands Call.operands Region.binds stAppend appBase appTail unName stSlice bndA
  LS.ev LS.get LS.blk LS.put LS.app LS.upd lkS lkH setS setH Nm.eqb guardOf nexts okPair dstOk AV.cellsOf takeAt putAt lkT sliceE fieldT intK isStrT isBoolT abin newOk LS.freshB LS.freshB.go LS.freshB.goH notIn AV.ments AV.ments.mentsL Blk.ments makes upsMents LS.start startL exitTo T T3 T4 outs callSideR callSideO callSideD upsR backO freshAll argB onlyIO List.map List.append List.nil_append List.cons_append Nat.blt
  conv convS convH srcs srcOf blkOk leA leA.leL Go.Abs.leB leP laid laidM isArg subH retP resAV resL res1 AV.frz AV.frz.frzL evL AV.ren AV.ren.renL Blk.ren renBs blksOf allSome nodupB onlyArgs blksMents callUps keyed inName inName.go backName callSide
theorem bo (l : Bs) : bytesOf l = bs l := rfl
theorem quoteNext_head (l : Bs) : quoteNext l = headIs 34 l := by cases l <;> rfl
abbrev nmR (ms : List Bs) : List (List PV) := ms.map fun s => [PV.val (.string (bs s))]
abbrev atR (l : List (Bs × Bs)) : List (List PV) := l.map fun p => [PV.val (.string (bs p.1)), .val (.string (bs p.2))]
theorem nmR_eq (l : List Bs) : (l.map bytesOf).map (fun s => [PV.val (.string s)]) = nmR l := by rw [List.map_map]; rfl
theorem atR_eq (l : List (Bs × Bs)) : (l.map pairB).map (fun p => [PV.val (.string p.1), .val (.string p.2)]) = atR l := by rw [List.map_map]; rfl
theorem takes_hd {c : UInt8} {l : Bs} (h : headIs c l = false) : takesB c l = (false, l) := by
  have h1 : (takesB c l).1 = false := by rw [takes_head, h]
  exact Prod.ext h1 (takes_false c l h1)
theorem marks_hit {l : Bs} {n1 m : Bs} (h : nameB l = (n1, m)) : marksGo l = if (takesB 44 m).1 = true then (n1 :: (marksGo (takesB 44 m).2).1, (marksGo (takesB 44 m).2).2) else ([n1], (takesB 44 m).2) := by
  rw [marksGo, h]
  simp only
  split <;> simp_all
theorem kids_cells (a b : Bs) (m : List ByteArray) (p : List (ByteArray × ByteArray)) (ks : List N) : (N.mk (bytesOf a) (bytesOf b) m p ks).cells = [vS (bs a), vS (bs b), .pv (strs m), .pv (pairs p), .pv (nodes ks)] := rfl
set_option maxRecDepth 20000 in
set_option maxHeartbeats 8000000 in
theorem g183 (Gl : Granted) (S : Bs) (hS : S.length ≤ 1000000) : ∀ k : Nat, k ≤ 2000000 → NodeC Gl S k
  | 0, _ => fun l hl => by
    refine fun_of (T := T4) (n := 88) (rs := [.cell 4 87]) Tryz.func183 (by kernel_rfl) rfl rfl rfl tok4 mixed (by simp) fun C hC => ?_
    refine hC.go [] 60 ?_
    simp [nodeR, N.av, N.cells, N.kind, N.text, N.marks, N.attrs, N.kids]
  | k + 1, hk => fun l hl => by
    have hrec := g183 Gl S hS k (by omega)
    have c34 : ((34 : UInt8).toNat : Int) = 34 := rfl
    have c60 : ((60 : UInt8).toNat : Int) = 60 := rfl
    have c44 : ((44 : UInt8).toNat : Int) = 44 := rfl
    have c62 : ((62 : UInt8).toNat : Int) = 62 := rfl
    have c40 : ((40 : UInt8).toNat : Int) = 40 := rfl
    have c32 : ((32 : UInt8).toNat : Int) = 32 := rfl
    have c61 : ((61 : UInt8).toNat : Int) = 61 := rfl
    have c41 : ((41 : UInt8).toNat : Int) = 41 := rfl
    have c91 : ((91 : UInt8).toNat : Int) = 91 := rfl
    have c93 : ((93 : UInt8).toNat : Int) = 93 := rfl
    have hk0 : ¬ ((k : Int) + 1 = 0) := by omega
    have hnr : nodeR (k + 1) (l, false) = if quoteNext l = true then textR (l, false) else
      (.mk (bytesOf (nameB l).1) ⟨#[]⟩ [] ((attrsF ((nameB l).2, false)).1.map pairB) (kidsF (nodeR k) ((wantB 91 (attrsF ((nameB l).2, false)).2).1.length + 1) (wantB 91 (attrsF ((nameB l).2, false)).2)).1,
        wantB 93 (kidsF (nodeR k) ((wantB 91 (attrsF ((nameB l).2, false)).2).1.length + 1) (wantB 91 (attrsF ((nameB l).2, false)).2)).2) := rfl
    rw [quoteNext_head] at hnr
    refine fun_of (T := T4) (n := 88) (rs := [.cell 4 87]) Tryz.func183 (by kernel_rfl) rfl rfl rfl tok4 mixed (by simp) fun C hC => ?_
    refine hC.go [] 60 ?_
    simp [hk0]
    refine hC.call [.arg 0] (g203 Gl S l false 34 34 c34.symm hl) (by simp) ?_
    cases hq : headIs 34 l with
    | true =>
      rw [hq, if_pos rfl] at hnr
      have htr : textR (l, false) = if (takesB 60 (quotedR (l, false)).2.1).1 = true then
        (.mk textK (bytesOf (quotedR (l, false)).1) ((marksGo (takesB 60 (quotedR (l, false)).2.1).2).1.map bytesOf) [] [], wantB 62 ((marksGo (takesB 60 (quotedR (l, false)).2.1).2).2, (quotedR (l, false)).2.2))
        else (.mk textK (bytesOf (quotedR (l, false)).1) [] [] [], (quotedR (l, false)).2) := rfl
      rw [htr] at hnr
      refine hC.go [] 60 ?_
      simp
      refine hC.call [.arg 0] (g204 Gl S l false hl hS) (by simp) ?_
      have hqs := (quotedR_suf (l, false)).trans hl
      generalize quotedR (l, false) = qq at hnr hqs ⊢
      obtain ⟨q, l1, b1⟩ := qq
      simp only at hnr hqs ⊢
      refine hC.go [] 60 ?_
      simp
      refine hC.call [.arg 0] (g203 Gl S l1 b1 60 60 c60.symm hqs) (by simp) ?_
      cases h60 : headIs 60 l1 with
      | false =>
        rw [takes_hd h60] at hnr
        simp only [Bool.false_eq_true, if_false] at hnr
        rw [hnr] at hC
        refine hC.go [] 60 ?_
        simp [N.av, N.cells, N.kind, N.text, N.marks, N.attrs, N.kids, bo, textK]
      | true =>
        obtain ⟨l2, rfl⟩ := head_cons h60
        rw [takes_hit] at hnr
        simp only [if_true] at hnr
        have hl2 := suf_tail hqs
        refine hC.go [] 60 ?_
        simp
        refine hC.call [.arg 0] (g205 Gl S (60 :: l2) b1 60 60 c60.symm hqs hS) (by simp) ?_
        rw [want_hit]
        refine hC.go [] 60 ?_
        simp
        refine hC.drawn (by kernel_rfl) (by simp) ?_
        refine hC.go [] 60 ?_
        simp
        refine hC.call [.arg 0] (g206 Gl S l2 b1 hl2 hS) (by simp) ?_
        have hms := (name_suf l2).trans hl2
        have hnl := name_le l2
        have hmk : ∀ p, nameB l2 = p → marksGo l2 = if (takesB 44 p.2).1 = true then (p.1 :: (marksGo (takesB 44 p.2).2).1, (marksGo (takesB 44 p.2).2).2) else ([p.1], (takesB 44 p.2).2) := fun p hp => marks_hit hp
        have hmk := hmk _ rfl
        generalize nameB l2 = nm at hms hnl hmk ⊢
        obtain ⟨n1, m1⟩ := nm
        simp only at hms hnl hmk ⊢
        have hl2l := hl2.length_le
        refine hC.go [] 60 ?_
        simp
        refine go_loop (ι := {x : List Bs × Bs // x.2 <:+ S ∧ x.1.length + x.2.length ≤ S.length + 1 ∧ marksGo l2 = if (takesB 44 x.2).1 = true then (x.1 ++ (marksGo (takesB 44 x.2).2).1, (marksGo (takesB 44 x.2).2).2) else (x.1, (takesB 44 x.2).2)})
          (fun x => ⟨[(0, .ptr (.arg 0) 0), (4, .ptr (.loc 4) 0), (5, .ptr (.loc 5) 0)], [(.arg 0, some (rdA S x.1.2 b1)), (.loc 4, some (.box 87 zero79)), (.loc 5, some (.box 87 [vS textK, vS (bs q), .own (.can 0), .pv (.nilS 2), .pv (.nilS 5)])), (.can 0, some (.row 9 1 (nmR x.1.1)))]⟩)
          (fun x => x.1.2.length) ⟨([n1], m1), hms, by simp; omega, by simpa using hmk⟩ [(.can 0, .nm (.loc 29))] (by simp [textK]) fun x ih => ?_
        obtain ⟨⟨acc, m⟩, hm, hlen, hn⟩ := x
        simp only at hm hlen hn ih
        refine hC.go [] 60 ?_
        simp
        refine hC.call [.arg 0] (g203 Gl S m b1 44 44 c44.symm hm) (by simp) ?_
        cases h44 : headIs 44 m with
        | false =>
          rw [takes_hd h44] at hn
          simp only [Bool.false_eq_true, if_false] at hn
          rw [hn] at hnr
          simp only at hnr
          rw [hnr] at hC
          refine hC.go [] 60 ?_
          simp
          refine hC.call [.arg 0] (g205 Gl S m b1 62 62 c62.symm hm hS) (by simp) ?_
          refine hC.til [15] [] 60 ?_
          simp
          refine go_to (M := ⟨[(4, .ptr (.loc 4) 0), (5, .ptr (.loc 5) 0)], [(.arg 0, some (rdA S (wantB 62 (m, b1)).1 (wantB 62 (m, b1)).2)), (.loc 4, some (.box 87 zero79)), (.loc 5, some (.box 87 [vS textK, vS (bs q), .pv (.ro 1 (nmR acc)), .pv (.nilS 2), .pv (.nilS 5)]))]⟩) [] (hC.go [] 60 ?_) (by simp)
          simp [N.av, kids_cells, N.cells, N.kind, N.text, N.marks, N.attrs, N.kids, bo, nmR_eq]
        | true =>
          obtain ⟨t, rfl⟩ := head_cons h44
          have ht := suf_tail hm
          rw [takes_hit] at hn
          simp only [if_true] at hn
          refine hC.go [] 60 ?_
          simp
          refine hC.call [.arg 0] (g205 Gl S (44 :: t) b1 44 44 c44.symm hm hS) (by simp) ?_
          rw [want_hit]
          refine hC.go [] 60 ?_
          simp
          refine hC.drawn (by kernel_rfl) (by simp) ?_
          refine hC.go [] 60 ?_
          simp
          refine hC.call [.arg 0] (g206 Gl S t b1 ht hS) (by simp) ?_
          have hms2 := (name_suf t).trans ht
          have hnl2 := name_le t
          have hmk2 : ∀ p, nameB t = p → marksGo t = if (takesB 44 p.2).1 = true then (p.1 :: (marksGo (takesB 44 p.2).2).1, (marksGo (takesB 44 p.2).2).2) else ([p.1], (takesB 44 p.2).2) := fun p hp => marks_hit hp
          have hmk2 := hmk2 _ rfl
          generalize nameB t = nm at hms2 hnl2 hmk2 ⊢
          obtain ⟨n2, m2⟩ := nm
          simp only at hms2 hnl2 hmk2 ⊢
          simp only [List.length_cons] at hlen
          rw [hmk2] at hn
          refine hC.go [] 60 ?_
          simp
          refine ⟨by omega, ?_⟩
          exact go_to [(.can 0, .nm (.loc 40))] (ih ⟨(acc ++ [n2], m2), hms2, by simp; omega, by rw [hn]; dsimp only; split <;> simp⟩ (by simp; omega)) (by simp)
    | false =>
      rw [hq, if_neg (by simp)] at hnr
      refine hC.go [] 60 ?_
      simp
      refine hC.call [.arg 0] (g206 Gl S l false hl hS) (by simp) ?_
      have hms := (name_suf l).trans hl
      have hnl := name_le l
      generalize nameB l = nm at hnr hms hnl ⊢
      obtain ⟨nm, l1⟩ := nm
      simp only at hnr hms hnl ⊢
      refine hC.til [1017] [] 60 ?_
      simp
      refine go_cut (ι := Unit) (fun _ => ⟨[(0, .ptr (.arg 0) 0), (1, vI (k + 1)), (4, .ptr (.loc 4) 0), (5, .ptr (.loc 5) 0)], [(.arg 0, some (rdA S (attrsF (l1, false)).2.1 (attrsF (l1, false)).2.2)), (.loc 4, some (.box 87 zero79)), (.loc 5, some (.box 87 [vS (bs nm), vS ⟨#[]⟩, .pv (.nilS 1), .own (.can 0), .pv (.nilS 5)])), (.can 0, some (.row 136 2 (atR (attrsF (l1, false)).1)))]⟩) (fun _ => ?_) (fun tail => ?_)
      · -- the kids
        have hs := (attrsF_suf (l1, false)).trans hms
        generalize attrsF (l1, false) = ab at hnr hs ⊢
        obtain ⟨ats, l2, b2⟩ := ab
        simp only at hnr hs ⊢
        have hw := wr64 (k : Int) (by omega)
        refine hC.go [] 60 ?_
        simp
        refine hC.call [.arg 0] (g205 Gl S l2 b2 91 91 c91.symm hs hS) (by simp) ?_
        have hs3 := (wantB_suf 91 (l2, b2)).trans hs
        generalize wantB 91 (l2, b2) = st3 at hnr hs3 ⊢
        obtain ⟨l3, b3⟩ := st3
        simp only at hnr hs3 ⊢
        have hkc := g207 Gl S hS k hrec l3 b3 hs3
        have hs4 := (kids_suf (nodeR_suf k) (l3.length + 1) (l3, b3)).trans hs3
        generalize kidsF (nodeR k) (l3.length + 1) (l3, b3) = K at hnr hs4 hkc
        obtain ⟨ks, l4, b4⟩ := K
        simp only at hnr hs4 hkc
        refine hC.go [] 60 ?_
        simp [hw]
        refine hC.call [.arg 0] hkc (by simp) ?_
        refine hC.go [] 60 ?_
        simp
        refine hC.call [.arg 0] (g205 Gl S l4 b4 93 93 c93.symm hs4 hS) (by simp) ?_
        rw [hnr] at hC
        refine hC.til [29] [] 60 ?_
        simp
        refine go_to (M := ⟨[(4, .ptr (.loc 4) 0), (5, .ptr (.loc 5) 0)], [(.arg 0, some (rdA S (wantB 93 (l4, b4)).1 (wantB 93 (l4, b4)).2)), (.loc 4, some (.box 87 zero79)), (.loc 5, some (.box 87 [vS (bs nm), vS ⟨#[]⟩, .pv (.nilS 1), .pv (.ro 2 (atR ats)), .pv (nodes ks)]))]⟩) [] (hC.go [] 60 ?_) (by simp)
        simp [N.av, N.cells, N.kind, N.text, N.marks, N.attrs, N.kids, bo]
        exact fun a b _ => ⟨rfl, rfl⟩
      · -- the attributes
        have haf : attrsF (l1, false) = if (takesB 40 l1).1 = true then ((attrsR 40 (l1, false)).1, wantB 41 (attrsR 40 (l1, false)).2) else ([], (l1, false)) := rfl
        refine hC.go [] 60 ?_
        simp
        refine hC.call [.arg 0] (g203 Gl S l1 false 40 40 c40.symm hms) (by simp) ?_
        cases h40 : headIs 40 l1 with
        | false =>
          rw [takes_hd h40] at haf
          simp only [Bool.false_eq_true, if_false] at haf
          rw [haf] at tail
          refine hC.til [1026] [] 60 ?_
          simp
          exact go_to [(.can 0, .nil)] (tail ()) (by simp)
        | true =>
          have ht40 : (takesB 40 l1).1 = true := by rw [takes_head, h40]
          rw [if_pos ht40] at haf
          rw [haf] at tail
          refine hC.go [] 60 ?_
          simp
          obtain ⟨A, hA⟩ : ∃ A, attrsR 40 (l1, false) = A := ⟨_, rfl⟩
          rw [hA] at tail
          have hsl := hms.length_le
          refine go_loop (ι := {x : List (Bs × Bs) × UInt8 × Bs × Bool // x.2.2.1 <:+ S ∧ x.1.length + x.2.2.1.length ≤ S.length ∧ A = (x.1 ++ (attrsR x.2.1 x.2.2).1, (attrsR x.2.1 x.2.2).2)})
            (fun x => ⟨[(0, .ptr (.arg 0) 0), (1, vI (k + 1)), (4, .ptr (.loc 4) 0), (5, .ptr (.loc 5) 0), (6, .pv (.val (.int .u8 (x.1.2.1.toNat : Int))))], [(.arg 0, some (rdA S x.1.2.2.1 x.1.2.2.2)), (.loc 4, some (.box 87 zero79)), (.loc 5, some (.box 87 [vS (bs nm), vS ⟨#[]⟩, .pv (.nilS 1), .own (.can 0), .pv (.nilS 5)])), (.can 0, some (.row 136 2 (atR x.1.1)))]⟩)
            (fun x => x.1.2.2.1.length) ⟨([], 40, l1, false), hms, by simpa using hsl, by rw [← hA]; simp⟩ [(.can 0, .nil)] (by simp) fun x ih => ?_
          obtain ⟨⟨acc, c, m, bb⟩, hm, hlen, hn⟩ := x
          simp only at hm hlen hn ih
          refine hC.go [] 60 ?_
          simp
          refine hC.callR [.arg 0] (g203 Gl S m bb c (c.toNat : Int) rfl hm) (by simp) ?_
          cases hh : headIs c m with
          | false =>
            have hne : ¬ ((takesB c m).1 = true ∧ bb = false) := by rw [takes_head, hh]; simp
            have hAe : A = (acc, (m, bb)) := by rw [hn, attrsR, dif_neg hne]; simp
            rw [hAe] at tail
            refine hC.go [] 60 ?_
            simp
            refine hC.call [.arg 0] (g205 Gl S m bb 41 41 c41.symm hm hS) (by simp) ?_
            refine hC.til [1026] [] 60 ?_
            simp
            exact go_to [] (tail ()) (by simp)
          | true =>
            cases bb with
            | true =>
              have hne : ¬ ((takesB c m).1 = true ∧ true = false) := by simp
              have hAe : A = (acc, (m, true)) := by rw [hn, attrsR, dif_neg hne]; simp
              rw [hAe] at tail
              refine hC.go [] 60 ?_
              simp
              refine hC.call [.arg 0] (g205 Gl S m true 41 41 c41.symm hm hS) (by simp) ?_
              refine hC.til [1026] [] 60 ?_
              simp
              exact go_to [] (tail ()) (by simp)
            | false =>
              obtain ⟨t, rfl⟩ := head_cons hh
              have ht := suf_tail hm
              have htk : (takesB c (c :: t)).1 = true ∧ false = false := ⟨by rw [takes_head, hh], rfl⟩
              rw [attrsR, dif_pos htk] at hn
              rw [takes_hit] at hn
              simp only at hn
              simp only [List.length_cons] at hlen ih
              refine hC.go [] 60 ?_
              simp
              refine hC.call [.arg 0] (g205 Gl S (c :: t) false c (c.toNat : Int) rfl hm hS) (by simp) ?_
              rw [want_hit]
              refine hC.go [] 60 ?_
              simp
              refine hC.call [.arg 0] (g206 Gl S t false ht hS) (by simp) ?_
              have hs1 := (name_suf t).trans ht
              have hs2 := (wantB_suf 61 ((nameB t).2, false)).trans hs1
              have hs3 := (quotedR_suf (wantB 61 ((nameB t).2, false))).trans hs2
              have hal := attrR1_len t
              have har : attrR1 t = (((nameB t).1, (quotedR (wantB 61 ((nameB t).2, false))).1), (quotedR (wantB 61 ((nameB t).2, false))).2) := rfl
              rw [har] at hn hal
              have hqc := g204 Gl S (wantB 61 ((nameB t).2, false)).1 (wantB 61 ((nameB t).2, false)).2 hs2 hS
              refine hC.go [] 60 ?_
              simp
              refine hC.call [.arg 0] (g205 Gl S (nameB t).2 false 61 61 c61.symm hs1 hS) (by simp) ?_
              generalize wantB 61 ((nameB t).2, false) = w61 at hn hal hs2 hs3 hqc ⊢
              obtain ⟨wl, wb⟩ := w61
              simp only at hn hal hs2 hs3 hqc ⊢
              generalize quotedR (wl, wb) = qr at hn hal hs3 hqc ⊢
              obtain ⟨v, l5, b5⟩ := qr
              simp only at hn hal hs3 hqc ⊢
              generalize nameB t = nmt at hn hal ⊢
              obtain ⟨an, al⟩ := nmt
              simp only at hn hal ⊢
              refine hC.go [] 60 ?_
              simp
              refine hC.drawn (by kernel_rfl) (by simp) ?_
              refine hC.go [] 60 ?_
              simp
              refine hC.call [.arg 0] hqc (by simp) ?_
              refine hC.go [] 60 ?_
              simp
              refine ⟨by omega, ?_⟩
              exact go_to [(.can 0, .nm (.loc 74))] (ih ⟨(acc ++ [(an, v)], 32, l5, b5), hs3, by simp; omega, by rw [hn]; simp⟩ (by simp; omega)) (by simp [c32])
end Go.Proofs.D
