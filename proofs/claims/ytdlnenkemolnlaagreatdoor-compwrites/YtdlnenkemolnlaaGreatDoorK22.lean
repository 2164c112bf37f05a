/-
  THE LAW CompSame: whatever the complements, it answers true.
-/
import Derived.Test.YtdlnenkemolnlaaGreatDoorT1
import Derived.Test.YtdlnenkemolnlaaGreatDoorK18
import Derived.Test.YtdlnenkemolnlaaGreatDoorK10
set_option linter.unusedVariables false
set_option linter.unusedSimpArgs false
namespace Go.Proofs.D
open Go Go.Abs Go.RowKit
attribute [local simp] VC VCS stepVS stepTopS firstId memN bigB unmark markT mkOff calmP keepT boundB stepV stepTop stepReg stepOp stMove stPick stBin stUn stConv stBox stAlloc stLoad stStore stFieldAddr stField stExtract stNilCheck stMakeFunc stIndexAddr stIndex stLen
  stBuild placesOf fillA stBuildSlice sliceCells repL chunks allPV toPV drawOk drawOk.go mayMakeO mayMake1 disjoint pairOk Oper.apart Oper.looksAt Op.operands Call.operands Region.binds stAppend appBase appTail unName stSlice bndA
  LS.ev LS.get LS.blk LS.put LS.app LS.upd lkS lkH setS setH Nm.eqb guardOf nexts okPair dstOk AV.cellsOf takeAt putAt lkT sliceE fieldT intK isStrT isBoolT abin newOk LS.freshB LS.freshB.go LS.freshB.goH notIn AV.ments AV.ments.mentsL Blk.ments makes upsMents LS.start startL exitTo T T3 outs callSideO callSideD upsR backO freshAll argB onlyIO List.map List.append List.nil_append List.cons_append Nat.blt
  conv convS convH srcs srcOf blkOk leA leA.leL Go.Abs.leB leP laid laidM isArg subH retP resAV resL res1 AV.frz AV.frz.frzL evL AV.ren AV.ren.renL Blk.ren renBs blksOf allSome nodupB onlyArgs blksMents callUps keyed inName inName.go backName callSide
def c0 : Cm := [[⟨true, ⟨#[120]⟩, []⟩, ⟨false, ⟨#[]⟩, []⟩]]
theorem x0_check : (xOf []).check = 0 := by
  have hk : ¬ (xOf []).kind = textK := by
    intro e
    have h1 : (xOf []).kind = ⟨#[120]⟩ := rfl
    rw [h1] at e
    exact absurd (congrArg ByteArray.size e) (by decide)
  have hf : (xOf []).form = true := by
    rw [N.form_eq, if_neg hk]
    have hn : isName (xOf []).kind = true := by decide
    rw [hn]
    rfl
  have hd : (xOf []).deep = 1 := by rw [N.deep_eq, if_neg hk]; exact wr64 1 (by omega)
  have hs : (xOf []).size = 2 := by rw [N.size_eq, if_neg hk]; exact wr64 2 (by omega)
  simp [N.check, hf, hd, hs]
theorem c0_ok : okC c0 = true := by
  have hv : value ⟨#[120]⟩ = true := by decide +kernel
  simp [okC, c0, Ent.ok, Ent.none, hv, x0_check]
theorem c0_print : printC c0 = ⟨#[61, 34, 120, 34, 32, 45, 10]⟩ := by
  rw [printC, if_pos c0_ok]
  rfl
theorem c0_err : printE c0 = 0 := by rw [printE, if_pos c0_ok]
theorem c0_wt : compWt c0 ≤ 90000 := by
  have h1 : (⟨#[120]⟩ : ByteArray).size = 1 := rfl
  have h0 : (⟨#[]⟩ : ByteArray).size = 0 := rfl
  simp [compWt, c0, slotWt, Ent.wt, N.wt.go, h1, h0]
set_option maxRecDepth 20000 in
theorem f21 : Fun Tryz.prog tabs 7 [] [] (vB true) [] := by
  refine fun_of (T := T3) (n := 21) (rs := [.tmp 0]) Tryz.func7 (by kernel_rfl) rfl rfl rfl tok3 mixed (by simp) fun C hC => ?_
  refine hC.vc [] 60 ?_
  simp
  refine hC.call [] (f23 c0 c0_wt) (by simp [c0, Ent.pv]) ?_
  rw [c0_print, c0_err]
  refine hC.vc [] 60 ?_
  simp
  refine hC.call [] (f35 tabs 97 ⟨#[]⟩ ⟨#[]⟩ ⟨#[]⟩ (.nilS 1) (.nilS 1) rfl) (by simp) ?_
  refine hC.vc [] 60 ?_
  simp
theorem print_same {a b : Cm} (ha : okC a = true) (hb : okC b = true) : decide (printC a = printC b) = decide (a = b) := by
  rw [printC, if_pos ha, printC, if_pos hb]
  refine decide_eq_decide.2 ⟨fun h => ?_, fun h => by rw [h]⟩
  have := congrArg (fun s : ByteArray => s.data.toList) h
  exact comp_uni a b ha hb (by simpa [bs] using this)
end Go.Proofs.D
/-
  NODES: read from a text.
-/
set_option linter.unusedVariables false
set_option linter.unusedSimpArgs false
namespace Go.Proofs.D
open Go Go.Abs Go.RowKit
attribute [local simp] VC VCS stepVS stepTopS firstId memN bigB unmark markT mkOff calmP keepT boundB stepV stepTop stepReg stepOp stMove stPick stBin stUn stConv stBox stAlloc stLoad stStore stFieldAddr stField stExtract stNilCheck stMakeFunc stIndexAddr stIndex stLen
  stBuild placesOf fillA stBuildSlice sliceCells repL chunks allPV toPV drawOk drawOk.go mayMakeO mayMake1 disjoint pairOk Oper.apart Oper.looksAt Op.operands Call.operands Region.binds stAppend appBase appTail unName stSlice bndA
  LS.ev LS.get LS.blk LS.put LS.app LS.upd lkS lkH setS setH Nm.eqb guardOf nexts okPair dstOk AV.cellsOf takeAt putAt lkT sliceE fieldT intK isStrT isBoolT abin newOk LS.freshB LS.freshB.go LS.freshB.goH notIn AV.ments AV.ments.mentsL Blk.ments makes upsMents LS.start startL exitTo T T3 outs callSideO callSideD upsR backO freshAll argB onlyIO List.map List.append List.nil_append List.cons_append Nat.blt
  conv convS convH srcs srcOf blkOk leA leA.leL Go.Abs.leB leP laid laidM isArg subH retP resAV resL res1 AV.frz AV.frz.frzL evL AV.ren AV.ren.renL Blk.ren renBs blksOf allSome nodupB onlyArgs blksMents callUps keyed inName inName.go backName callSide
theorem n0_cells : n0.cells = [vS ⟨#[]⟩, vS ⟨#[]⟩, .pv (strs []), .pv (pairs []), .pv (nodes [])] := rfl
theorem bytesOf_inj {l m : Bs} : bytesOf l = bytesOf m ↔ l = m := by
  constructor
  · intro h
    have := congrArg (fun s : ByteArray => s.data.toList) h
    simpa [bytesOf] using this
  · intro h; rw [h]
set_option maxRecDepth 20000 in
set_option maxHeartbeats 2000000 in
theorem f98 (s : Bs) (hl : s.length ≤ 15000) : Fun Tryz.prog tabs 126 [vT s] [] (.tup [(parseN s).1.av, vI (parseN s).2]) [] := by
  have hwt := node_wt s
  have hf := f124 tabs (s.length + 1) s (by omega) (by omega)
  have hr : readN s = nodeF (s.length + 1) (s, false) := rfl
  have hb : badN s = ((readN s).2.2 || !decide ((readN s).2.1 = []) || !decide ((readN s).1.w = s) || decide ((readN s).1.check = 2)) := rfl
  have hp : parseN s = if badN s = true then (n0, 2) else if (readN s).1.check = 0 then ((readN s).1, 0) else (n0, (readN s).1.check) := rfl
  rw [hr] at hb hp
  generalize nodeF (s.length + 1) (s, false) = rd at hwt hf hb hp
  obtain ⟨n, l, b⟩ := rd
  simp only at hwt hf hb hp
  have hbad : badN s = true → parseN s = (n0, 2) := fun h => by rw [hp, if_pos h]
  refine fun_of (T := T3) (n := 43) (rs := [.cell 2 87, .tmp 3]) Tryz.func126 (by kernel_rfl) rfl rfl rfl tok3 mixed (by simp) fun C hC => ?_
  refine hC.vc [] 60 ?_
  simp
  refine hC.call [.loc 10] hf (by simp [N.av, N.cells]) ?_
  refine hC.vc [] 60 ?_
  simp [N.av, N.cells]
  refine hC.callO [.loc 6] [.can 0] (funO_nil (ty := 91) (e := 5) (c0 := nilPtr) (cs := []) (by simp [N.av, N.cells, AV.ments, AV.ments.mentsL]) (by simp [AV.ments]) (f110 nilPtr [] n (.inl rfl) (by omega) (by simp; omega))) (by simp [N.av, N.cells]) ?_
  refine hC.vc [] 60 ?_
  simp
  refine hC.call [] (f109 n (by omega)) (by simp [N.av, N.cells]) ?_
  have fin : badN s = true → ∀ k, Go C (.top (Item.code .ret :: k) ⟨[(2, .ptr (.loc 2) 0), (3, vI 2)], [(.loc 2, some (.box 87 n0.cells))]⟩) := fun h k => by
    rw [hbad h] at hC
    exact hC.vc [] 5 (by simp [N.av, n0_cells])
  cases b with
  | true =>
    have hB : badN s = true := by rw [hb]; simp
    refine hC.vc [] 33 ?_
    simp
    exact go_to [] (fin hB _) (by simp [n0_cells])
  | false =>
    by_cases h1 : l = []
    · subst h1
      have hb0 : bytesOf [] = ⟨#[]⟩ := rfl
      refine hC.vc [] 60 ?_
      simp [hb0]
      refine hC.call [.loc 6, .can 0] (f40 tabs ptr0 n.w (.inr rfl)) (by simp) ?_
      have hwb : (⟨n.w.toArray⟩ : ByteArray) = bytesOf n.w := rfl
      rw [hwb]
      by_cases h2 : n.w = s
      · have h2' : bytesOf n.w = bytesOf s := bytesOf_inj.2 h2
        by_cases h3 : n.check = 2
        · have hB : badN s = true := by rw [hb]; simp [h3]
          refine hC.vc [] 15 ?_
          simp [h2', h3]
          exact go_to [] (fin hB _) (by simp [n0_cells])
        · have hB : badN s = false := by rw [hb]; simp [h2, h3]
          rw [hB, if_neg (by simp)] at hp
          by_cases h4 : n.check = 0
          · rw [if_pos h4] at hp
            rw [hp] at hC
            refine hC.vc [] 60 ?_
            simp [h2', h4, N.av, N.cells]
          · rw [if_neg h4] at hp
            rw [hp] at hC
            refine hC.vc [] 24 ?_
            simp [h2', h3, h4]
            exact go_to (M := ⟨[(2, .ptr (.loc 2) 0), (3, vI n.check)], [(.loc 2, some (.box 87 n0.cells))]⟩) [] (hC.vc [] 5 (by simp [N.av, n0_cells])) (by simp [n0_cells])
      · have h2' : ¬ bytesOf n.w = bytesOf s := fun e => h2 (bytesOf_inj.1 e)
        have hB : badN s = true := by rw [hb]; simp [h2]
        refine hC.vc [] 15 ?_
        simp [h2']
        exact go_to [] (fin hB _) (by simp [n0_cells])
    · have h1' : ¬ bytesOf l = ⟨#[]⟩ := fun e => h1 (bytesOf_nil.1 e)
      have hB : badN s = true := by rw [hb]; simp [h1]
      refine hC.vc [] 33 ?_
      simp [h1']
      exact go_to [] (fin hB _) (by simp [n0_cells])
end Go.Proofs.D
/-
  NODES, as the answer's reader reads them: what is left is the end of what was there.
-/
set_option linter.unusedVariables false
set_option linter.unusedSimpArgs false
namespace Go.Proofs.D
open Go Go.Abs
theorem takes_suf (c : UInt8) (l : Bs) : (takesB c l).2 <:+ l := by
  cases l with
  | nil => simp [takesB]
  | cons x t =>
    simp only [takesB]
    split
    · exact List.suffix_cons x t
    · exact List.suffix_refl _
theorem wantB_suf (c : UInt8) (st : Rs) : (wantB c st).1 <:+ st.1 := takes_suf c st.1
theorem name_suf (l : Bs) : (nameB l).2 <:+ l := List.dropWhile_suffix _
theorem quotedGo_suf : ∀ (l s : Bs) (r : Bs × Bs), quotedGo l s = some r → r.2 <:+ l
  | [], s, r, h => by simp [quotedGo] at h
  | [c], s, r, h => by
    simp only [quotedGo] at h
    split at h
    · cases h; simp
    · cases h
  | c :: d :: l, s, r, h => by
    simp only [quotedGo] at h
    split at h
    · cases h; exact List.suffix_cons _ _
    · split at h
      · exact (quotedGo_suf l _ r h).trans ((List.suffix_cons _ _).trans (List.suffix_cons _ _))
      · exact (quotedGo_suf (d :: l) _ r h).trans (List.suffix_cons _ _)
theorem quotedR_suf (st : Rs) : (quotedR st).2.1 <:+ st.1 := by
  unfold quotedR
  split
  · exact (wantB_suf 34 _).trans (wantB_suf 34 st)
  · cases hq : quotedGo (wantB 34 st).1 [] with
    | none => simp
    | some r => exact (quotedGo_suf _ _ _ hq).trans (wantB_suf 34 st)
theorem marks_suf : ∀ (n : Nat) (l : Bs), l.length ≤ n → (marksGo l).2 <:+ l
  | n, l, hn => by
    rw [marksGo]
    split
    · rename_i h
      have h1 := (takes_le 44 (nameB l).2).2 h
      have h2 := name_le l
      exact (marks_suf (n - 1) (takesB 44 (nameB l).2).2 (by omega)).trans ((takes_suf 44 _).trans (name_suf l))
    · exact (takes_suf 44 _).trans (name_suf l)
termination_by n l => l.length
decreasing_by omega
theorem textR_suf (st : Rs) : (textR st).2.1 <:+ st.1 := by
  unfold textR
  split
  · exact (wantB_suf 62 _).trans ((marks_suf _ _ (Nat.le_refl _)).trans ((takes_suf 60 _).trans (quotedR_suf st)))
  · exact quotedR_suf st
theorem attrR1_suf (l : Bs) : (attrR1 l).2.1 <:+ l := (quotedR_suf _).trans ((wantB_suf 61 _).trans (name_suf l))
theorem attrsR_suf : ∀ (n : Nat) (c : UInt8) (st : Rs), st.1.length ≤ n → (attrsR c st).2.1 <:+ st.1
  | n, c, st, hn => by
    rw [attrsR]
    split
    · rename_i h
      have h1 := (takes_le c st.1).2 h.1
      have h2 := attrR1_len (takesB c st.1).2
      exact (attrsR_suf (n - 1) 32 (attrR1 (takesB c st.1).2).2 (by omega)).trans ((attrR1_suf _).trans (takes_suf c st.1))
    · exact List.suffix_refl _
termination_by n c st => st.1.length
decreasing_by omega
theorem attrsF_suf (st : Rs) : (attrsF st).2.1 <:+ st.1 := by
  unfold attrsF
  split
  · exact (wantB_suf 41 _).trans (attrsR_suf _ 40 st (Nat.le_refl _))
  · exact List.suffix_refl _
theorem kids_suf {f : Rs → N × Rs} (hf : ∀ st : Rs, (f st).2.1 <:+ st.1) : ∀ (j : Nat) (st : Rs), (kidsF f j st).2.1 <:+ st.1
  | 0, st => List.suffix_refl _
  | j + 1, st => by
    simp only [kidsF]
    split
    · exact List.suffix_refl _
    · exact (kids_suf hf j _).trans (hf st)
theorem nodeR_suf : ∀ (k : Nat) (st : Rs), (nodeR k st).2.1 <:+ st.1
  | 0, st => List.suffix_refl _
  | k + 1, st => by
    simp only [nodeR]
    split
    · exact textR_suf st
    · exact (wantB_suf 93 _).trans ((kids_suf (nodeR_suf k) _ _).trans ((wantB_suf 91 _).trans ((attrsF_suf _).trans (name_suf st.1))))
theorem quotedR_short {st : Rs} (hb : (quotedR st).2.2 = false) : st.2 = false ∧ (quotedR st).1.length + (quotedR st).2.1.length + 2 ≤ st.1.length := by
  obtain ⟨h1, h2⟩ := quoted_alike st
  rw [h2 hb]
  exact (quoted_le st).2 (by rw [← h1]; exact hb)
theorem textR_short {st : Rs} (hb : (textR st).2.2 = false) : (textR st).2.1.length < st.1.length := by
  have hq : (quotedR st).2.2 = false := by
    unfold textR at hb
    split at hb
    · simp only [want_flag, Bool.or_eq_false_iff] at hb; exact hb.2
    · exact hb
  have h1 := (quotedR_short hq).2
  unfold textR
  split
  · have h2 := (wantB_suf 62 ((marksGo (takesB 60 (quotedR st).2.1).2).2, (quotedR st).2.2)).length_le
    have h3 := (marks_suf _ (takesB 60 (quotedR st).2.1).2 (Nat.le_refl _)).length_le
    have h4 := (takes_suf 60 (quotedR st).2.1).length_le
    simp only at h2 ⊢
    omega
  · simp only; omega
theorem nodeR_short {k : Nat} {l : Bs} (hb : (nodeR k (l, false)).2.2 = false) : (nodeR k (l, false)).2.1.length < l.length := by
  cases k with
  | zero => simp [nodeR] at hb
  | succ k =>
    simp only [nodeR] at hb ⊢
    by_cases hq : quoteNext l = true
    · simp only [hq, if_true] at hb ⊢
      exact textR_short hb
    · simp only [hq, Bool.false_eq_true, if_false] at hb ⊢
      have hn := (name_suf l).length_le
      have ha := (attrsF_suf ((nameB l).2, false)).length_le
      generalize attrsF ((nameB l).2, false) = a at hb ha ⊢
      simp only at ha
      have h1 := want_le 91 a.2
      have h2 := (kids_suf (nodeR_suf k) ((wantB 91 a.2).1.length + 1) (wantB 91 a.2)).length_le
      have h3 := (want_le 93 (kidsF (nodeR k) ((wantB 91 a.2).1.length + 1) (wantB 91 a.2)).2).2 hb
      cases hw : (wantB 91 a.2).2 with
      | true =>
        rw [kids_bad _ _ _ hw] at h3
        simp only at h3
        rw [hw] at h3
        cases h3.1
      | false =>
        have h4 := h1.2 hw
        omega
/-- What the answer makes of a text. -/
theorem readR_parse (s : Bs) : parseN s = if (readR s).2.2 = true ∨ ¬ (readR s).2.1 = [] ∨ ¬ (readR s).1.w = s ∨ (readR s).1.form = false then (n0, 2) else if (readR s).1.check = 0 then ((readR s).1, 0) else (n0, (readR s).1.check) := by
  obtain ⟨h1, h2⟩ := read_alike s
  have hf : ∀ n : N, (decide (n.check = 2) = true) = (n.form = false) := fun n => by
    refine propext ?_
    unfold N.check
    cases n.form with
    | false => simp
    | true =>
      simp only [Bool.true_eq_false, if_false, decide_eq_true_eq]
      constructor
      · intro h; split at h
        · cases h
        · split at h <;> cases h
      · intro h; cases h
  unfold parseN badN
  cases hb : (readR s).2.2 with
  | true => rw [hb] at h1; simp [← h1]
  | false =>
    rw [← h2 hb, hb]
    simp only [Bool.or_eq_true, hf]
    simp [or_assoc]
end Go.Proofs.D
/-
  NODES: all of a text; a builder's bytes; where a text ends.
-/
set_option linter.unusedVariables false
set_option linter.unusedSimpArgs false
namespace Go.Proofs.D
open Go Go.Abs Go.RowKit
attribute [local simp] VC VCS stepVS stepTopS firstId memN bigB unmark markT mkOff calmP keepT boundB stepV stepTop stepReg stepOp stMove stPick stBin stUn stConv stBox stAlloc stLoad stStore stFieldAddr stField stExtract stNilCheck stMakeFunc stIndexAddr stIndex stLen
  stBuild placesOf fillA stBuildSlice sliceCells repL chunks allPV toPV drawOk drawOk.go mayMakeO mayMake1 disjoint pairOk Oper.apart Oper.looksAt Op.operands Call.operands Region.binds stAppend appBase appTail unName stSlice bndA
  LS.ev LS.get LS.blk LS.put LS.app LS.upd lkS lkH setS setH Nm.eqb guardOf nexts okPair dstOk AV.cellsOf takeAt putAt lkT sliceE fieldT intK isStrT isBoolT abin newOk LS.freshB LS.freshB.go LS.freshB.goH notIn AV.ments AV.ments.mentsL Blk.ments makes upsMents LS.start startL exitTo T T3 outs callSideO callSideD upsR backO freshAll argB onlyIO List.map List.append List.nil_append List.cons_append Nat.blt
  conv convS convH srcs srcOf blkOk leA leA.leL Go.Abs.leB leP laid laidM isArg subH retP resAV resL res1 AV.frz AV.frz.frzL evL AV.ren AV.ren.renL Blk.ren renBs blksOf allSome nodupB onlyArgs blksMents callUps keyed inName inName.go backName callSide
theorem f79 (s : Bs) (hl : s.length ≤ 14000) : Fun Tryz.prog tabs 83 [vT s] [] (.tup [.pv (nodes (parseAllB s).1), vI (parseAllB s).2]) [] := by
  have g1 : (⟨#[120, 91]⟩ : ByteArray).size = 2 := rfl
  have g2 : (⟨#[93]⟩ : ByteArray).size = 1 := rfl
  have hs : (⟨#[120, 91]⟩ : ByteArray) ++ bytesOf s ++ ⟨#[93]⟩ = bytesOf (120 :: 91 :: (s ++ [93])) := bsExt (by simp [bytesOf, ByteArray.data_append])
  refine fun_of (T := T3) (n := 16) (rs := [.tmp 2, .tmp 3]) Tryz.func83 (by kernel_rfl) rfl rfl rfl tok3 mixed (by simp) fun C hC => ?_
  refine hC.vc [] 60 ?_
  simp [bytesOf_size, g1, g2, hs]
  refine ⟨by omega, by omega, ?_⟩
  refine hC.call [] (f98 (120 :: 91 :: (s ++ [93])) (by simp; omega)) (by simp [N.av, N.cells]) ?_
  refine hC.vc [] 60 ?_
  simp [N.av, N.cells, parseAllB]
set_option maxRecDepth 20000 in
theorem f97 (Gl : Granted) (ad : AV) (l : List UInt8) (c : UInt8) (z : Int) (hz : z = (c.toNat : Int)) (had : ad = nilPtr ∨ ad = ptr0) (hlen : l.length + 1 ≤ 140737488355328) :
    FunO Tryz.prog Gl 125 [ptr0, .pv (.val (.int .u8 z))] [some (bldB ad (.own (.arg 1))), some (bytesB l)] nilErr [some (bldB ptr0 (.own (.out 0))), none] [bytesB (l ++ [c])] := by
  refine funO_of (T := T3) (n := 17) (rs := [.tmp 4]) Tryz.func125 (by kernel_rfl) rfl rfl rfl tok3 mixed (by simp) fun C hC => ?_
  refine hC.vc [] 60 ?_
  simp
  refine hC.call [.arg 0, .arg 1] (f68 Gl ad l had) (by rcases had with rfl | rfl <;> simp) ?_
  have hbr : byteRow l ++ [[PV.val (.int .u8 z)]] = byteRow (l ++ [c]) := by rw [hz]; simp [byteRow]
  refine hC.vc [] 15 ?_
  simp
  refine ⟨by omega, ?_⟩
  exact go_to (M := ⟨[], [(.arg 0, some (bldB ptr0 (.own (.out 0)))), (.out 0, some (bytesB (l ++ [c])))]⟩) [(.out 0, .nm (.loc 14))] (hC.vc [] 60 (by simp)) (by simp [hz])
theorem f80 (Gl : Granted) (s p : ByteArray) : Fun Tryz.prog Gl 84 [vS s, vS p] [] (vS (cutPre s p)) [] := by
  refine fun_of (T := T3) (n := 13) (rs := [.tmp 4]) Tryz.func84 (by kernel_rfl) rfl rfl rfl tok3 mixed (by simp) fun C hC => ?_
  refine hC.vc [] 60 ?_
  simp
  refine hC.call [] (f96 Gl s p) (by simp) ?_
  refine hC.vc [] 60 ?_
  cases h : hasPre s p
  · simp [cutPre, h]
  · simp [cutPre, h, hasPre_le h]
theorem trim_takes (c : UInt8) (l : Bs) : (takesB c l).2 = trimB c l := by
  cases l with
  | nil => rfl
  | cons x l =>
    simp only [takesB, trimB, headIs, decide_eq_true_eq]
    split <;> rfl
theorem f52 (Gl : Granted) (c : UInt8) (l : Bs) : Fun Tryz.prog Gl 43 [vT l, vS (sgn c)] [] (vT (trimB c l)) [] := by
  refine fun_of (T := T3) (n := 8) (rs := [.tmp 4]) Tryz.func43 (by kernel_rfl) rfl rfl rfl tok3 mixed (by simp) fun C hC => ?_
  refine hC.vc [] 60 ?_
  simp
  refine hC.call [] (f80 Gl (bytesOf l) (sgn c)) (by simp) ?_
  rw [cutPre_byte, trim_takes]
  refine hC.vc [] 60 ?_
  simp
theorem f50b (Gl : Granted) (c : UInt8) (l : Bs) : Fun Tryz.prog Gl 41 [vT l, vS (sgn c)] [] (.tup [vT (trimB c l), vB (headIs c l)]) [] := by
  have h := f50 Gl (bytesOf l) (sgn c)
  rw [hasPre_byte, cutPre_byte, trim_takes, headIs_takes] at h
  exact h
set_option maxRecDepth 20000 in
set_option maxHeartbeats 4000000 in
theorem f77 (Gl : Granted) (s : Bs) (hl : s.length ≤ 9000000) : Fun Tryz.prog Gl 81 [vT s] [] (vT (unquoteB s)) [] := by
  refine fun_of (T := T3) (n := 23) (rs := [.tmp 2]) Tryz.func81 (by kernel_rfl) rfl rfl rfl tok3 mixed (by simp) fun C hC => ?_
  refine hC.vc [] 60 ?_
  simp
  refine go_loop (ι := {x : Nat × Bool × Bs // 1 ≤ x.1 ∧ x.1 ≤ s.length + 1 ∧ x.2.2.length ≤ x.1 ∧ unquoteB s = x.2.2 ++ unqGo (s.drop x.1)}) (fun x => ⟨[(0, vT s), (3, .ptr (.loc 3) 0), (4, vI x.1.1)], [(.loc 3, some (bldB (adOf (.loc 3) x.1.2.1) (.own (.can 0)))), (.can 0, some (bytesB x.1.2.2))]⟩)
    (fun x => s.length + 2 - x.1.1) ⟨(1, false, []), by simp [unquoteB]⟩ [(.can 0, .nil)] (by simp [adOf]) fun x ih => ?_
  obtain ⟨⟨i, ad, acc⟩, hi1, hi, hal, hn⟩ := x
  simp only at hi1 hi hal hn ih
  have hwl := wr64 ((s.length : Int) - 1) (by omega)
  have hw1 := wr64 ((i : Int) + 1) (by omega)
  have hw2 := wr64 ((i : Int) + 1 + 1) (by omega)
  by_cases hlt : i + 1 < s.length
  · have hIl : (i : Int) < (s.length : Int) - 1 := by omega
    have hz0 := byteAt_of (l := s) (i := i) (by omega)
    have hy0 := byteAt_of hlt
    have hd : s.drop i = s[i] :: s[i + 1] :: s.drop (i + 2) := by rw [List.drop_eq_getElem_cons (by omega), List.drop_eq_getElem_cons (i := i + 1) hlt]
    have hd1 : s.drop (i + 1) = s[i + 1] :: s.drop (i + 2) := List.drop_eq_getElem_cons hlt
    generalize s[i] = c at hz0 hd
    generalize s[i + 1] = d at hy0 hd hd1
    obtain ⟨z, hz⟩ : ∃ z, byteAt (bytesOf s) (i : Int) = z := ⟨_, rfl⟩
    rw [hz] at hz0
    obtain ⟨y, hy⟩ : ∃ y, byteAt (bytesOf s) ((i : Int) + 1) = y := ⟨_, rfl⟩
    have hy0' : y = (d.toNat : Int) := by rw [← hy]; exact hy0
    have l92 := u8_lit hz0 92
    change z = 92 ↔ c = 92 at l92
    have hin : i < s.length := by omega
    have hI1 : (i : Int) + 1 < s.length := by omega
    have hI0 : (0 : Int) ≤ (i : Int) + 1 := by omega
    rcases Bool.eq_false_or_eq_true ad with hA | hA
    all_goals
      by_cases h92 : z = 92
      · have hc := l92.1 h92
        have hr : unquoteB s = (acc ++ [d]) ++ unqGo (s.drop (i + 2)) := by rw [hn, hd, unqGo, if_pos hc]; simp
        refine hC.vc [] 60 ?_
        simp [bytesOf_size, hwl, hIl, hz, h92, hw1, hy, hI1, hI0, hin, hA, adOf]
        refine hC.callO [.loc 3, .can 0] [.can 1] (f97 Gl (adOf (.arg 0) ad) acc d y hy0' (adOf_or ad) (by omega)) (by simp [hA, adOf]) ?_
        refine hC.vc [] 60 ?_
        simp
        exact go_to [(.can 0, .nm (.can 1))] (ih ⟨(i + 2, true, acc ++ [d]), by dsimp only; omega, by dsimp only; omega, by simp; omega, hr⟩ (by simp; omega)) (by simp [hw2, adOf]; omega)
      · have hc : ¬ c = 92 := fun e => h92 (l92.2 e)
        have hr : unquoteB s = (acc ++ [c]) ++ unqGo (s.drop (i + 1)) := by rw [hn, hd, unqGo, if_neg hc, ← hd1]; simp
        refine hC.vc [] 60 ?_
        simp [bytesOf_size, hwl, hIl, hz, h92, hin, hA, adOf]
        refine hC.callO [.loc 3, .can 0] [.can 1] (f97 Gl (adOf (.arg 0) ad) acc c z hz0 (adOf_or ad) (by omega)) (by simp [hA, adOf]) ?_
        refine hC.vc [] 60 ?_
        simp
        exact go_to [(.can 0, .nm (.can 1))] (ih ⟨(i + 1, true, acc ++ [c]), by dsimp only; omega, by dsimp only; omega, by simp; omega, hr⟩ (by simp; omega)) (by simp [hw1, adOf])
  · have hIl : ¬ (i : Int) < (s.length : Int) - 1 := by omega
    have hr : unquoteB s = acc := by
      rw [hn]
      have hlen : (s.drop i).length ≤ 1 := by rw [List.length_drop]; omega
      match s.drop i, hlen with
      | [], _ => simp [unqGo]
      | [c], _ => simp [unqGo]
    rw [hr] at hC
    rcases Bool.eq_false_or_eq_true ad with hA | hA
    all_goals
      refine hC.vc [] 60 ?_
      simp [bytesOf_size, hwl, hIl, hA, adOf]
      refine hC.call [.loc 3, .can 0] (f40 Gl (adOf (.arg 0) ad) acc (adOf_or ad)) (by simp [hA, adOf]) ?_
      refine hC.vc [] 60 ?_
      simp
      rfl
end Go.Proofs.D
/-
  COMPLEMENTS, as the answer reads them: what is written is read as it was, so that both readers answer alike.
-/
set_option linter.unusedVariables false
set_option linter.unusedSimpArgs false
namespace Go.Proofs.D
open Go Go.Abs
/-- A quoted text: what it says, and what is behind it. -/
def quotedX : Bs → Option (Bs × Bs)
  | [] => none
  | c :: t => if c = 34 then quotedGo t [] else none
theorem quotedX_len {l : Bs} {p : Bs × Bs} (h : quotedX l = some p) : p.1.length + p.2.length + 2 ≤ l.length ∧ p.2 <:+ l := by
  cases l with
  | nil => simp [quotedX] at h
  | cons c t =>
    simp only [quotedX] at h
    split at h
    · have := quotedGo_le _ _ _ h
      simp at this ⊢
      exact ⟨by omega, (quotedGo_suf _ _ _ h).trans (List.suffix_cons _ _)⟩
    · cases h
def opnX (o : Int) (c : UInt8) : Int := if c = 91 then o + 1 else if c = 93 then o - 1 else o
/-- What is behind the bracket that ends. -/
def cGo (o : Int) (l : Bs) : Option Bs := match l with
  | [] => none
  | c :: t => if c = 34 then match hq : quotedGo t [] with
      | none => none
      | some p => cGo o p.2
    else if opnX o c = 0 then some t else cGo (opnX o c) t
termination_by l.length
decreasing_by
  · have := quotedGo_le _ _ _ hq; simp at this ⊢; omega
  · simp
theorem cGo_nil (o : Int) : cGo o [] = none := by rw [cGo]
theorem cGo_cons (o : Int) (c : UInt8) (t : Bs) (h : ¬ c = 34) : cGo o (c :: t) = if opnX o c = 0 then some t else cGo (opnX o c) t := by
  rw [cGo]; simp only [h, if_false]
theorem cGo_quoted (o : Int) (t : Bs) : cGo o (34 :: t) = match quotedGo t [] with | none => none | some p => cGo o p.2 := by
  rw [cGo]
  simp only [if_true]
  split <;> rename_i h <;> rw [h]
theorem cGo_quote (o : Int) (v r : Bs) : cGo o (quoteB v ++ r) = cGo o r := by
  have e : quoteB v ++ r = 34 :: (esc v ++ 34 :: r) := by simp [quoteB]
  rw [e, cGo_quoted, quotedGo_esc]
theorem cGo_plain : ∀ (s r : Bs) (o : Int), (∀ c ∈ s, plainC c = true) → o ≠ 0 → cGo o (s ++ r) = cGo o r
  | [], r, o, _, _ => rfl
  | c :: s, r, o, h, ho => by
    have hc := h c (by simp)
    simp only [plainC, Bool.and_eq_true, Bool.not_eq_true', decide_eq_false_iff_not] at hc
    have ho2 : opnX o c = o := by simp [opnX, hc.1.2, hc.2]
    rw [List.cons_append, cGo_cons o c _ hc.1.1, ho2, if_neg ho]
    exact cGo_plain s r o (fun x hx => h x (by simp [hx])) ho
theorem cGo_attrT : ∀ (l : List (ByteArray × ByteArray)) (r : Bs) (o : Int), (∀ p ∈ l, isName p.1 = true) → o ≠ 0 → cGo o (sepTail 32 (l.map attrB) ++ r) = cGo o r
  | [], r, o, _, _ => by simp [sepTail]
  | p :: l, r, o, h, ho => by
    have ih := cGo_attrT l r o (fun q hq => h q (by simp [hq])) ho
    have e : sepTail 32 ((p :: l).map attrB) ++ r = (32 :: p.1.data.toList ++ [61]) ++ (quoteB p.2.data.toList ++ (sepTail 32 (l.map attrB) ++ r)) := by simp [sepTail, attrB]
    rw [e, cGo_plain _ _ o (fun c hc => by
      simp only [List.cons_append, List.mem_cons, List.mem_append, List.mem_singleton] at hc
      rcases hc with rfl | hc | hc
      · decide
      · exact name_plain (h p (by simp)) c hc
      · rcases hc with rfl | hc
        · decide
        · cases hc) ho, cGo_quote, ih]
theorem cGo_headA (a : List (ByteArray × ByteArray)) (r : Bs) (o : Int) (h : ∀ p ∈ a, isName p.1 = true) (ho : o ≠ 0) : cGo o (headA a ++ r) = cGo o r := by
  unfold headA
  split
  · simp
  · rename_i ha
    obtain ⟨p, l, rfl⟩ := List.exists_cons_of_ne_nil ha
    have e : 40 :: (sepBy 32 ((p :: l).map attrB) ++ [41]) ++ r = (40 :: p.1.data.toList ++ [61]) ++ (quoteB p.2.data.toList ++ (sepTail 32 (l.map attrB) ++ ([41] ++ r))) := by simp [sepBy, attrB]
    rw [e, cGo_plain _ _ o (fun c hc => by
      simp only [List.cons_append, List.mem_cons, List.mem_append, List.mem_singleton] at hc
      rcases hc with rfl | hc | hc
      · decide
      · exact name_plain (h p (by simp)) c hc
      · rcases hc with rfl | hc
        · decide
        · cases hc) ho, cGo_quote, cGo_attrT l _ o (fun q hq => h q (by simp [hq])) ho, cGo_plain [41] r o (by decide) ho]
theorem cGo_node (n : N) (r : Bs) (o : Int) (hn : n.form = true) (ho : 0 < o) : cGo o (n.w ++ r) = cGo o r := by
  have ho' : o ≠ 0 := by omega
  by_cases hk : n.kind = textK
  · obtain ⟨p1, _, _⟩ := form_text hn hk
    rw [N.w_eq, if_pos hk, List.append_assoc, cGo_quote, cGo_plain _ _ o (headT_plain p1) ho']
  · obtain ⟨p1, p2, p3, p4, p5⟩ := form_kind hn hk
    have hgo : ∀ (l : List N), (∀ x ∈ l, x.form = true ∧ ∀ r (o : Int), 0 < o → cGo o (x.w ++ r) = cGo o r) → ∀ (r : Bs) (o : Int), 0 < o → cGo o (N.w.go l ++ r) = cGo o r := by
      intro l
      induction l with
      | nil => intro _ r o _; simp [N.w.go]
      | cons x l ih =>
        intro hl r o ho
        simp only [N.w.go, List.append_assoc]
        rw [(hl x (by simp)).2 _ o ho, ih (fun y hy => hl y (by simp [hy])) r o ho]
    have e : n.w ++ r = n.kind.data.toList ++ (headA n.attrs ++ (91 :: (N.w.go n.kids ++ (93 :: r)))) := by rw [N.w_eq, if_neg hk]; simp
    have o1 : opnX o 91 = o + 1 := by simp [opnX]
    have o2 : opnX (o + 1) 93 = o := by simp [opnX]
    rw [e, cGo_plain _ _ o (name_plain p1) ho', cGo_headA _ _ o p4 ho', cGo_cons o 91 _ (by decide), o1, if_neg (by omega), hgo n.kids (fun x hx => ⟨p5 x hx, fun r o ho => cGo_node x r o (p5 x hx) ho⟩) _ (o + 1) (by omega), cGo_cons _ 93 _ (by decide), o2, if_neg ho']
termination_by SizeOf.sizeOf n
decreasing_by exact N.kids_lt hx
theorem cGo_go : ∀ (l : List N) (r : Bs) (o : Int), (∀ x ∈ l, x.form = true) → 0 < o → cGo o (N.w.go l ++ r) = cGo o r
  | [], r, o, _, _ => by simp [N.w.go]
  | x :: l, r, o, hl, ho => by
    simp only [N.w.go, List.append_assoc]
    rw [cGo_node x _ o (hl x (by simp)) ho, cGo_go l r o (fun y hy => hl y (by simp [hy])) ho]
theorem cGo_kids (l : List N) (r : Bs) (hl : ∀ x ∈ l, x.form = true) : cGo 0 (91 :: (N.w.go l ++ 93 :: r)) = some r := by
  have o1 : opnX 0 91 = 1 := by decide
  have o2 : opnX 1 93 = 0 := by decide
  rw [cGo_cons 0 91 _ (by decide), o1, if_neg (by decide), cGo_go l _ 1 hl (by decide), cGo_cons 1 93 _ (by decide), o2, if_pos rfl]
theorem cGo_len : ∀ (n : Nat) (o : Int) (l r : Bs), l.length ≤ n → cGo o l = some r → r.length < l.length ∧ r <:+ l
  | n, o, [], r, _, h => by rw [cGo_nil] at h; cases h
  | n, o, c :: t, r, hn, h => by
    by_cases hc : c = 34
    · subst hc
      rw [cGo_quoted] at h
      cases hq : quotedGo t [] with
      | none => rw [hq] at h; cases h
      | some p =>
        rw [hq] at h
        have hl : p.1.length + p.2.length + 1 ≤ t.length := by simpa using quotedGo_le _ _ _ hq
        simp only [List.length_cons] at hn
        obtain ⟨h1, h2⟩ := cGo_len (n - 1) o p.2 r (by omega) h
        exact ⟨by simp; omega, h2.trans ((quotedGo_suf _ _ _ hq).trans (List.suffix_cons _ _))⟩
    · rw [cGo_cons o c t hc] at h
      split at h
      · cases h; exact ⟨by simp, List.suffix_cons _ _⟩
      · simp only [List.length_cons] at hn
        obtain ⟨h1, h2⟩ := cGo_len (n - 1) _ t r (by omega) h
        exact ⟨by simp; omega, h2.trans (List.suffix_cons _ _)⟩
termination_by n o l => l.length
decreasing_by
  · simp only [List.length_cons]; omega
  · simp only [List.length_cons]; omega
/-- What stands in the bracket: r is what is behind it. -/
def inX (l r : Bs) : Bs := (l.drop 1).take (l.length - r.length - 2)
/-- The entry that begins there, and what is behind it. -/
def entryX (l : Bs) : Option (Ent × Bs) := match l with
  | [] => none
  | c :: t => if c = 45 then some (e0, t) else if c = 61 then match quotedX t with
      | none => none
      | some p => if headIs 91 p.2 = true then match cGo 0 p.2 with
          | none => none
          | some r => if (parseAllB (inX p.2 r)).2 = 0 then some (⟨true, bytesOf p.1, (parseAllB (inX p.2 r)).1⟩, r) else none
        else some (⟨true, bytesOf p.1, []⟩, p.2)
    else none
theorem cGo_two {l r : Bs} (hh : headIs 91 l = true) (h : cGo 0 l = some r) : r.length + 2 ≤ l.length := by
  cases l with
  | nil => simp [headIs] at hh
  | cons x t =>
    obtain rfl : x = 91 := by simpa [headIs] using hh
    rw [cGo_cons 0 91 t (by decide), if_neg (by decide)] at h
    have := (cGo_len _ _ t r (Nat.le_refl _) h).1
    simp; omega
theorem entryX_len {l : Bs} {p : Ent × Bs} (h : entryX l = some p) : p.2 <:+ l ∧ p.2.length < l.length ∧ p.1.wt + 7 * p.2.length ≤ 7 * l.length := by
  have w0 : e0.wt = 1 := by
    have h0 : (⟨#[]⟩ : ByteArray).size = 0 := rfl
    simp [Ent.wt, e0, N.wt.go, h0]
  cases l with
  | nil => simp [entryX] at h
  | cons c t =>
    simp only [entryX] at h
    split at h
    · cases h
      refine ⟨List.suffix_cons _ _, by simp, ?_⟩
      simp [w0]; omega
    · split at h
      · cases hq : quotedX t with
        | none => rw [hq] at h; cases h
        | some q =>
          rw [hq] at h
          obtain ⟨l1, l2⟩ := quotedX_len hq
          simp only at h
          split at h
          · rename_i hh
            cases hg : cGo 0 q.2 with
            | none => rw [hg] at h; cases h
            | some r =>
              rw [hg] at h
              simp only at h
              split at h
              · cases h
                have hw := parseAll_wt (inX q.2 r)
                obtain ⟨h1, h2⟩ := cGo_len _ _ _ _ (Nat.le_refl _) hg
                have h3 := cGo_two hh hg
                have h4 : (inX q.2 r).length ≤ q.2.length - r.length - 2 := by unfold inX; rw [List.length_take]; omega
                have hs : (bytesOf q.1).size = q.1.length := rfl
                refine ⟨(h2.trans l2).trans (List.suffix_cons _ _), by simp; omega, ?_⟩
                simp only [Ent.wt, hs, List.length_cons]
                omega
              · cases h
          · cases h
            have hs : (bytesOf q.1).size = q.1.length := rfl
            refine ⟨l2.trans (List.suffix_cons _ _), by simp; omega, ?_⟩
            simp only [Ent.wt, hs, List.length_cons, N.wt.go]
            omega
      · cases h
def dropIf (s : List Ent) (l : Bs) : Bs := if 0 < s.length then l.drop 1 else l
def pLoopX (c : Cm) (s : List Ent) (l : Bs) : Option Cm := match l with
  | [] => some c
  | x :: t => if x = 10 then pLoopX (c ++ [s]) [] t else match he : entryX (dropIf s (x :: t)) with
      | none => none
      | some p => pLoopX c (s ++ [p.1]) p.2
termination_by l.length
decreasing_by
  · simp
  · have h1 := (entryX_len he).2.1
    unfold dropIf at h1
    split at h1 <;> simp at h1 ⊢ <;> omega
theorem pLoopX_nil (c : Cm) (s : List Ent) : pLoopX c s [] = some c := by rw [pLoopX]
theorem pLoopX_line (c : Cm) (s : List Ent) (t : Bs) : pLoopX c s (10 :: t) = pLoopX (c ++ [s]) [] t := by rw [pLoopX]; simp
theorem pLoopX_ent (c : Cm) (s : List Ent) (x : UInt8) (t : Bs) (h : ¬ x = 10) : pLoopX c s (x :: t) = match entryX (dropIf s (x :: t)) with
    | none => none
    | some p => pLoopX c (s ++ [p.1]) p.2 := by
  rw [pLoopX]
  simp only [h, if_false]
  split <;> rename_i e <;> rw [e]
def parseX (t : Bs) : Cm × Int := match pLoopX [] [] t with
  | none => ([], 2)
  | some c => if okC c = true ∧ compB c = t then (c, 0) else ([], 2)
theorem drop_le (s : List Ent) (l : Bs) : (dropIf s l).length ≤ l.length ∧ dropIf s l <:+ l := by
  unfold dropIf
  split
  · exact ⟨by simp, List.drop_suffix 1 l⟩
  · exact ⟨Nat.le_refl _, List.suffix_refl _⟩
theorem pLoopX_wt : ∀ (n : Nat) (c : Cm) (s : List Ent) (t : Bs) (d : Cm), t.length ≤ n → pLoopX c s t = some d → compWt d ≤ compWt c + (s.map Ent.wt).sum + 7 * t.length
  | n, c, s, [], d, _, h => by rw [pLoopX_nil] at h; cases h; omega
  | n, c, s, x :: t, d, hn, h => by
    simp only [List.length_cons] at hn
    by_cases hx : x = 10
    · subst hx
      rw [pLoopX_line] at h
      have := pLoopX_wt (n - 1) _ _ _ d (by omega) h
      rw [show compWt (c ++ [s]) = compWt c + compWt [s] by simp [compWt]] at this
      simp only [compWt, List.map_cons, List.map_nil, List.sum_cons, List.sum_nil, slotWt, List.length_cons] at this ⊢
      omega
    · rw [pLoopX_ent c s x t hx] at h
      cases he : entryX (dropIf s (x :: t)) with
      | none => rw [he] at h; cases h
      | some p =>
        rw [he] at h
        obtain ⟨_, h1, h2⟩ := entryX_len he
        have h3 := (drop_le s (x :: t)).1
        simp only [List.length_cons] at h3 ⊢
        have := pLoopX_wt (n - 1) _ _ _ d (by omega) h
        simp only [List.map_append, List.map_cons, List.map_nil, List.sum_append, List.sum_cons, List.sum_nil] at this
        omega
termination_by n c s t => t.length
decreasing_by
  · simp
  · simp only [List.length_cons] at *; omega
/-! ### what is written is read -/
theorem entryX_app (e : Ent) (r : Bs) (he : e.ok = true) (hr : Stop (· == 91) r) : entryX (e.w ++ r) = some (e, r) := by
  unfold Ent.ok at he
  cases hh : e.has with
  | false =>
    rw [hh] at he
    simp [Ent.none] at he
    have hw : e.w = [45] := by simp [Ent.w, hh]
    have : e = e0 := Ent.ext' hh he.1 he.2
    rw [hw, this]
    simp [entryX]
  | true =>
    rw [hh] at he
    simp only [if_true, Bool.and_eq_true, decide_eq_true_eq] at he
    have hf := x_form (check_form he.2)
    have hq : ∀ r : Bs, quotedX (quoteB e.value.data.toList ++ r) = some (e.value.data.toList, r) := fun r => by
      have e1 : quoteB e.value.data.toList ++ r = 34 :: (esc e.value.data.toList ++ 34 :: r) := by simp [quoteB]
      rw [e1]
      simp only [quotedX, if_true]
      rw [quotedGo_esc]
      simp
    by_cases h0 : N.w.go e.rest = []
    · have hre := (go_nil hf).1 h0
      have hw : e.w ++ r = 61 :: (quoteB e.value.data.toList ++ r) := by rw [Ent.w, if_pos hh, if_pos h0]; simp
      rw [hw]
      simp only [entryX, hq, headIs_stop hr]
      simp only [if_neg (show ¬ (61 : UInt8) = 45 by decide), if_true, Bool.false_eq_true, if_false, Option.some.injEq, Prod.mk.injEq, and_true]
      exact Ent.ext' hh.symm (bytesOf_list _) hre.symm
    · have hw : e.w ++ r = 61 :: (quoteB e.value.data.toList ++ (91 :: (N.w.go e.rest ++ 93 :: r))) := by rw [Ent.w, if_pos hh, if_neg h0]; simp
      have hin : inX (91 :: (N.w.go e.rest ++ 93 :: r)) r = N.w.go e.rest := by
        unfold inX
        have : (91 :: (N.w.go e.rest ++ 93 :: r)).length - r.length - 2 = (N.w.go e.rest).length := by simp; omega
        rw [this]
        simp
      have hpa := parseAll_app e.rest he.2
      have h91 : headIs 91 (91 :: (N.w.go e.rest ++ 93 :: r)) = true := by simp [headIs]
      rw [hw]
      simp only [entryX, hq, h91, cGo_kids e.rest r hf, hin, hpa]
      simp only [if_neg (show ¬ (61 : UInt8) = 45 by decide), if_true, Option.some.injEq, Prod.mk.injEq, and_true]
      exact Ent.ext' hh.symm (bytesOf_list _) rfl
theorem ent_head (e : Ent) (r : Bs) : ∃ x t, e.w ++ r = x :: t ∧ ¬ x = 10 := by
  obtain ⟨x, t, h1, h2⟩ := ent_first e
  exact ⟨x, t ++ r, by rw [h1]; simp, h2⟩
theorem lineX_tail : ∀ (l : List Ent) (c : Cm) (s : List Ent) (r : Bs), 0 < s.length → (∀ e ∈ l, Ent.ok e = true) → pLoopX c s (sepTail 32 (l.map Ent.w) ++ 10 :: r) = pLoopX (c ++ [s ++ l]) [] r
  | [], c, s, r, _, _ => by simp [sepTail, pLoopX_line]
  | e :: l, c, s, r, hs, h => by
    have ih := lineX_tail l c (s ++ [e]) r (by simp) (fun x hx => h x (by simp [hx]))
    have e1 : sepTail 32 ((e :: l).map Ent.w) ++ 10 :: r = 32 :: (e.w ++ (sepTail 32 (l.map Ent.w) ++ 10 :: r)) := by simp [sepTail]
    have hst : Stop (· == 91) (sepTail 32 (l.map Ent.w) ++ 10 :: r) := by
      cases l with
      | nil => exact stop_cons (by decide)
      | cons x l => exact stop_cons (by decide)
    have hd : dropIf s (32 :: (e.w ++ (sepTail 32 (l.map Ent.w) ++ 10 :: r))) = e.w ++ (sepTail 32 (l.map Ent.w) ++ 10 :: r) := by simp [dropIf, hs]
    rw [e1, pLoopX_ent _ _ _ _ (by decide), hd, entryX_app e _ (h e (by simp)) hst]
    simp only
    rw [ih]
    simp
theorem lineX_app (l : List Ent) (c : Cm) (r : Bs) (h : ∀ e ∈ l, Ent.ok e = true) : pLoopX c [] (lineB l ++ r) = pLoopX (c ++ [l]) [] r := by
  cases l with
  | nil => simp [lineB, sepBy, pLoopX_line]
  | cons e l =>
    have hst : Stop (· == 91) (sepTail 32 (l.map Ent.w) ++ 10 :: r) := by
      cases l with
      | nil => exact stop_cons (by decide)
      | cons x l => exact stop_cons (by decide)
    have e1 : lineB (e :: l) ++ r = e.w ++ (sepTail 32 (l.map Ent.w) ++ 10 :: r) := by simp [lineB, sepBy]
    obtain ⟨x, t, h1, h2⟩ := ent_head e (sepTail 32 (l.map Ent.w) ++ 10 :: r)
    have hd : dropIf [] (x :: t) = x :: t := by simp [dropIf]
    have hea := entryX_app e _ (h e (by simp)) hst
    rw [h1] at hea
    rw [e1, h1, pLoopX_ent _ _ _ _ h2, hd, hea]
    simp only [List.nil_append]
    rw [lineX_tail l c [e] r (by simp) (fun x hx => h x (by simp [hx]))]
    rfl
theorem compX_app : ∀ (d c : Cm), okC d = true → pLoopX c [] (compB d) = some (c ++ d)
  | [], c, _ => by simp [compB, pLoopX_nil]
  | l :: d, c, h => by
    simp only [okC, List.all_cons, Bool.and_eq_true, List.all_eq_true] at h
    have ih := compX_app d (c ++ [l]) (by simp only [okC, List.all_eq_true]; exact h.2)
    rw [compB, lineX_app l c _ h.1, ih]
    simp
/-- Both readers answer alike. -/
theorem parseX_eq (t : Bs) : parseX t = parseC t := by
  by_cases h : ∃ c, okC c = true ∧ compB c = t
  · obtain ⟨c, h1, rfl⟩ := h
    rw [parse_print c h1]
    unfold parseX
    rw [compX_app c [] h1]
    simp [h1]
  · have h1 : parseX t = ([], 2) := by
      unfold parseX
      split
      · rfl
      · rename_i c _
        rw [if_neg (fun hc => h ⟨c, hc⟩)]
    have h2 : parseC t = ([], 2) := by
      unfold parseC
      split
      · rfl
      · rename_i c _
        rw [if_neg (fun hc => h ⟨c, hc⟩)]
    rw [h1, h2]
end Go.Proofs.D
/-
  COMPLEMENTS: where a quoted text, or a bracket, ends.
-/
set_option linter.unusedVariables false
set_option linter.unusedSimpArgs false
namespace Go.Proofs.D
open Go Go.Abs Go.RowKit
attribute [local simp] VC VCS stepVS stepTopS firstId memN bigB unmark markT mkOff calmP keepT boundB stepV stepTop stepReg stepOp stMove stPick stBin stUn stConv stBox stAlloc stLoad stStore stFieldAddr stField stExtract stNilCheck stMakeFunc stIndexAddr stIndex stLen
  stBuild placesOf fillA stBuildSlice sliceCells repL chunks allPV toPV drawOk drawOk.go mayMakeO mayMake1 disjoint pairOk Oper.apart Oper.looksAt Op.operands Call.operands Region.binds stAppend appBase appTail unName stSlice bndA
  LS.ev LS.get LS.blk LS.put LS.app LS.upd lkS lkH setS setH Nm.eqb guardOf nexts okPair dstOk AV.cellsOf takeAt putAt lkT sliceE fieldT intK isStrT isBoolT abin newOk LS.freshB LS.freshB.go LS.freshB.goH notIn AV.ments AV.ments.mentsL Blk.ments makes upsMents LS.start startL exitTo T T3 outs callSideO callSideD upsR backO freshAll argB onlyIO List.map List.append List.nil_append List.cons_append Nat.blt
  conv convS convH srcs srcOf blkOk leA leA.leL Go.Abs.leB leP laid laidM isArg subH retP resAV resL res1 AV.frz AV.frz.frzL evL AV.ren AV.ren.renL Blk.ren renBs blksOf allSome nodupB onlyArgs blksMents callUps keyed inName inName.go backName callSide
theorem endGo_skip (o : Int) (q : Bool) (i : Nat) (l : Bs) : endGo o q true i l = endGo o q false (i + 1) (l.drop 1) := by
  cases l <;> simp [endGo]
set_option maxRecDepth 20000 in
set_option maxHeartbeats 4000000 in
theorem f76 (Gl : Granted) (l : Bs) (hl : l.length ≤ 9000000) : Fun Tryz.prog Gl 80 [vT l] [] (vI (endB l)) [] := by
  refine fun_of (T := T3) (n := 49) (rs := [.tmp 2]) Tryz.func80 (by kernel_rfl) rfl rfl rfl tok3 mixed (by simp) fun C hC => ?_
  refine hC.vc [] 60 ?_
  simp
  show GoS C _ _
  refine go_scope ?_
  show Go C (.top _ _)
  refine hC.vc [] 60 ?_
  simp
  refine go_loop (ι := {x : Nat × Int × Bool // x.1 ≤ l.length + 1 ∧ -(x.1 : Int) ≤ x.2.1 ∧ x.2.1 ≤ x.1 ∧ endB l = endGo x.2.1 x.2.2 false x.1 (l.drop x.1)}) (fun x => ⟨[(0, vT l), (3, vI x.1.2.1), (4, vB x.1.2.2), (5, vI x.1.1)], []⟩)
    (fun x => l.length + 2 - x.1.1) ⟨(0, 0, false), by simp [endB]⟩ [] (by simp) fun x ih => ?_
  obtain ⟨⟨i, o, q⟩, hi, ho1, ho2, hn⟩ := x
  simp only at hi ho1 ho2 hn ih
  have hw1 := wr64 ((i : Int) + 1) (by omega)
  have hw2 := wr64 ((i : Int) + 1 + 1) (by omega)
  have hwo := wr64 (o + 1) (by omega)
  have hwp := wr64 (o - 1) (by omega)
  have hw0 := wr64 0 (by omega)
  by_cases hlt : i < l.length
  · have hz0 := byteAt_of hlt
    have hd : l.drop i = l[i] :: l.drop (i + 1) := List.drop_eq_getElem_cons hlt
    generalize l[i] = c at hz0 hd
    obtain ⟨z, hz⟩ : ∃ z, byteAt (bytesOf l) (i : Int) = z := ⟨_, rfl⟩
    rw [hz] at hz0
    have l92 := u8_lit hz0 92
    have l34 := u8_lit hz0 34
    have l91 := u8_lit hz0 91
    have l93 := u8_lit hz0 93
    change z = 92 ↔ c = 92 at l92
    change z = 34 ↔ c = 34 at l34
    change z = 91 ↔ c = 91 at l91
    change z = 93 ↔ c = 93 at l93
    rw [hd] at hn
    -- behind a sign that is not passed over
    have fin : ∀ (o' : Int) (q' : Bool), stepS o q c = some (o', q') → ¬ (q = true ∧ c = 92) → endB l = if o' = 0 ∧ q' = false then i + 1 else endGo o' q' false (i + 1) (l.drop (i + 1)) := fun o' q' h1 h2 => by
      rw [hn, endGo, if_neg h2, h1]
    by_cases h92 : q = true ∧ z = 92
    · obtain ⟨hq, h92⟩ := h92
      have hr : endB l = endGo o q false (i + 2) (l.drop (i + 2)) := by
        rw [hn, endGo, if_pos ⟨hq, l92.1 h92⟩, endGo_skip, List.drop_drop]
      subst hq
      refine hC.vc [] 100 ?_
      simp [bytesOf_size, hlt, hz, h92]
      exact go_to [] (ih ⟨(i + 2, o, true), by dsimp only; omega, by dsimp only; omega, by dsimp only; omega, hr⟩ (by simp; omega)) (by simp [hw1, hw2]; omega)
    · have hq92 : ¬ (q = true ∧ c = 92) := fun h => h92 ⟨h.1, l92.2 h.2⟩
      by_cases h34 : z = 34
      · have hc := l34.1 h34
        have hf := fin o (!q) (by simp [stepS, hc]) hq92
        cases q with
        | true =>
          by_cases h0 : o = 0
          · rw [if_pos ⟨h0, rfl⟩] at hf
            rw [hf] at hC
            refine hC.vc [] 100 ?_
            simp [bytesOf_size, hlt, hz, h34, h0, hw1]
          · rw [if_neg (fun h => h0 h.1)] at hf
            refine hC.vc [] 100 ?_
            simp [bytesOf_size, hlt, hz, h34, h0]
            exact go_to [] (ih ⟨(i + 1, o, false), by dsimp only; omega, by dsimp only; omega, by dsimp only; omega, hf⟩ (by simp; omega)) (by simp [hw1])
        | false =>
          rw [if_neg (fun h => by simp at h)] at hf
          by_cases h0 : o = 0
          · refine hC.vc [] 100 ?_
            simp [bytesOf_size, hlt, hz, h34, h0]
            exact go_to [] (ih ⟨(i + 1, o, true), by dsimp only; omega, by dsimp only; omega, by dsimp only; omega, hf⟩ (by simp; omega)) (by simp [hw1, h0])
          · refine hC.vc [] 100 ?_
            simp [bytesOf_size, hlt, hz, h34, h0]
            exact go_to [] (ih ⟨(i + 1, o, true), by dsimp only; omega, by dsimp only; omega, by dsimp only; omega, hf⟩ (by simp; omega)) (by simp [hw1])
      · have hc34 : ¬ c = 34 := fun e => h34 (l34.2 e)
        cases q with
        | true =>
          have h92' : ¬ z = 92 := fun h => h92 ⟨rfl, h⟩
          have hr : endB l = endGo o true false (i + 1) (l.drop (i + 1)) := by
            rw [hn, endGo, if_neg hq92]
            simp [stepS, hc34]
          refine hC.vc [] 100 ?_
          simp [bytesOf_size, hlt, hz, h34, h92']
          exact go_to [] (ih ⟨(i + 1, o, true), by dsimp only; omega, by dsimp only; omega, by dsimp only; omega, hr⟩ (by simp; omega)) (by simp [hw1])
        | false =>
          by_cases h91 : z = 91
          · have hf := fin (o + 1) false (by simp [stepS, l91.1 h91]) hq92
            by_cases h0 : o + 1 = 0
            · rw [if_pos ⟨h0, rfl⟩] at hf
              rw [hf] at hC
              refine hC.vc [] 100 ?_
              simp [bytesOf_size, hlt, hz, h91, h0, hw1, hwo, hw0]
            · rw [if_neg (fun h => h0 h.1)] at hf
              refine hC.vc [] 100 ?_
              simp [bytesOf_size, hlt, hz, h91, h0, hwo]
              exact go_to [] (ih ⟨(i + 1, o + 1, false), by dsimp only; omega, by dsimp only; omega, by dsimp only; omega, hf⟩ (by simp; omega)) (by simp [hw1, hwo])
          · have hc91 : ¬ c = 91 := fun e => h91 (l91.2 e)
            by_cases h93 : z = 93
            · have hf := fin (o - 1) false (by simp [stepS, l93.1 h93]) hq92
              by_cases h0 : o - 1 = 0
              · rw [if_pos ⟨h0, rfl⟩] at hf
                rw [hf] at hC
                refine hC.vc [] 100 ?_
                simp [bytesOf_size, hlt, hz, h93, h0, hw1, hwp, hw0]
              · rw [if_neg (fun h => h0 h.1)] at hf
                refine hC.vc [] 100 ?_
                simp [bytesOf_size, hlt, hz, h93, h0, hwp]
                exact go_to [] (ih ⟨(i + 1, o - 1, false), by dsimp only; omega, by dsimp only; omega, by dsimp only; omega, hf⟩ (by simp; omega)) (by simp [hw1, hwp])
            · have hc93 : ¬ c = 93 := fun e => h93 (l93.2 e)
              have hf := fin o false (by simp [stepS, hc34, hc91, hc93]) hq92
              by_cases h0 : o = 0
              · rw [if_pos ⟨h0, rfl⟩] at hf
                rw [hf] at hC
                refine hC.vc [] 100 ?_
                simp [bytesOf_size, hlt, hz, h34, h91, h93, h0, hw1]
              · rw [if_neg (fun h => h0 h.1)] at hf
                refine hC.vc [] 100 ?_
                simp [bytesOf_size, hlt, hz, h34, h91, h93, h0]
                exact go_to [] (ih ⟨(i + 1, o, false), by dsimp only; omega, by dsimp only; omega, by dsimp only; omega, hf⟩ (by simp; omega)) (by simp [hw1])
  · have hr : endB l = 0 := by rw [hn, List.drop_eq_nil_of_le (by omega)]; rfl
    rw [hr] at hC
    refine hC.vc [] 60 ?_
    simp [bytesOf_size, hlt]
end Go.Proofs.D
/-
  COMPLEMENTS: an entry, read.
-/
set_option linter.unusedVariables false
set_option linter.unusedSimpArgs false
namespace Go.Proofs.D
open Go Go.Abs Go.RowKit
attribute [local simp] VC VCS stepVS stepTopS firstId memN bigB unmark markT mkOff calmP keepT boundB stepV stepTop stepReg stepOp stMove stPick stBin stUn stConv stBox stAlloc stLoad stStore stFieldAddr stField stExtract stNilCheck stMakeFunc stIndexAddr stIndex stLen
  stBuild placesOf fillA stBuildSlice sliceCells repL chunks allPV toPV drawOk drawOk.go mayMakeO mayMake1 disjoint pairOk Oper.apart Oper.looksAt Op.operands Call.operands Region.binds stAppend appBase appTail unName stSlice bndA
  LS.ev LS.get LS.blk LS.put LS.app LS.upd lkS lkH setS setH Nm.eqb guardOf nexts okPair dstOk AV.cellsOf takeAt putAt lkT sliceE fieldT intK isStrT isBoolT abin newOk LS.freshB LS.freshB.go LS.freshB.goH notIn AV.ments AV.ments.mentsL Blk.ments makes upsMents LS.start startL exitTo T T3 outs callSideO callSideD upsR backO freshAll argB onlyIO List.map List.append List.nil_append List.cons_append Nat.blt
  conv convS convH srcs srcOf blkOk leA leA.leL Go.Abs.leB leP laid laidM isArg subH retP resAV resL res1 AV.frz AV.frz.frzL evL AV.ren AV.ren.renL Blk.ren renBs blksOf allSome nodupB onlyArgs blksMents callUps keyed inName inName.go backName callSide
theorem extract_td (l : Bs) (a b : Nat) : (bytesOf l).extract a b = bytesOf ((l.take b).drop a) := bsExt (by
  simp [bytesOf, ByteArray.data_extract, List.drop_take])
theorem e0_cells : e0.cells = [vB false, vS ⟨#[]⟩, .pv (nodes [])] := rfl
theorem fst_byte {c : UInt8} {l : Bs} {d : UInt8} (z : Int) (hz : byteAt (bytesOf (c :: l)) 0 = z) : z = (d.toNat : Int) ↔ c = d := by
  have := byteAt0 c l
  rw [hz] at this
  exact u8_lit this d
set_option maxRecDepth 20000 in
set_option maxHeartbeats 4000000 in
theorem f51 (t : Bs) (hl : t.length ≤ 12000) : Fun Tryz.prog tabs 42 [vT t] [] (.tup [(entryB t).1.av, vT (entryB t).2.1, vB (entryB t).2.2]) [] := by
  have hE : entryB t = if headIs 45 t = true then (e0, t.drop 1, true)
    else if headIs 61 t = true ∧ endB (t.drop 1) ≠ 0 ∧ headIs 34 (t.drop 1) = true then restB (bytesOf (unquoteB ((t.drop 1).take (endB (t.drop 1))))) ((t.drop 1).drop (endB (t.drop 1)))
    else (e0, [], false) := rfl
  have hb0 : bytesOf [] = ⟨#[]⟩ := rfl
  have htr45 : headIs 45 t = true → trimB 45 t = t.drop 1 := fun h => by rw [trimB, h, if_pos rfl]
  have htr61 : headIs 61 t = true → trimB 61 t = t.drop 1 := fun h => by rw [trimB, h, if_pos rfl]
  have hul : (t.drop 1).length ≤ 12000 := by rw [List.length_drop]; omega
  obtain ⟨u, hu⟩ : ∃ u, t.drop 1 = u := ⟨_, rfl⟩
  rw [hu] at hE htr45 htr61 hul
  refine fun_of (T := T3) (n := 78) (rs := [.cell 2 78, .tmp 3, .tmp 4]) Tryz.func42 (by kernel_rfl) rfl rfl rfl tok3 mixed (by simp) fun C hC => ?_
  refine hC.vc [] 60 ?_
  simp
  refine hC.call [] (f50b tabs 45 t) (by simp) ?_
  cases h45 : headIs 45 t with
  | true =>
    rw [h45, if_pos rfl] at hE
    rw [htr45 h45]
    rw [hE] at hC
    refine hC.vc [] 60 ?_
    simp [Ent.av, e0_cells]
  | false =>
    rw [h45, if_neg (by simp)] at hE
    refine hC.vc [] 60 ?_
    simp
    refine hC.call [] (f50b tabs 61 t) (by simp) ?_
    have htl : (trimB 61 t).length ≤ t.length := trim_le 61 t
    refine hC.vc [] 60 ?_
    simp
    refine hC.call [] (f76 tabs (trimB 61 t) (by omega)) (by simp) ?_
    cases h61 : headIs 61 t with
    | false =>
      rw [h61, if_neg (by simp)] at hE
      rw [hE] at hC
      refine hC.vc [] 60 ?_
      simp [Ent.av, e0_cells, hb0]
    | true =>
      rw [htr61 h61]
      by_cases h0 : endB u = 0
      · rw [if_neg (fun h => h.2.1 h0)] at hE
        rw [h0]
        rw [hE] at hC
        refine hC.vc [] 60 ?_
        simp [Ent.av, e0_cells, hb0]
      · have hule := endGo_le u 0 false false 0
        change endB u ≤ 0 + u.length at hule
        cases u with
        | nil => exact absurd rfl h0
        | cons c m =>
          have h0I : ¬ (endB (c :: m) : Int) = 0 := by omega
          obtain ⟨z, hz⟩ : ∃ z, byteAt (bytesOf (c :: m)) 0 = z := ⟨_, rfl⟩
          have l34 := fst_byte (d := 34) z hz
          change z = 34 ↔ c = 34 at l34
          have hsz : 0 < (bytesOf (c :: m)).size := by rw [bytesOf_size]; simp
          by_cases h34 : z = 34
          · have hc := l34.1 h34
            have hh34 : headIs 34 (c :: m) = true := by simp [headIs, hc]
            rw [if_pos ⟨h61, h0, hh34⟩] at hE
            generalize endB (c :: m) = tn at hE h0 hule ⊢
            have h0I : ¬ (tn : Int) = 0 := by omega
            have hv : (bytesOf (c :: m)).extract 0 tn = bytesOf ((c :: m).take tn) := by rw [extract_td]; rfl
            have hw : (bytesOf (c :: m)).extract tn (c :: m).length = bytesOf ((c :: m).drop tn) := extract_drop _ _
            have htk : ((c :: m).take tn).length ≤ 9000000 := by rw [List.length_take]; omega
            have hdl : ((c :: m).drop tn).length ≤ 12000 := by rw [List.length_drop]; omega
            have htn : tn ≤ (c :: m).length := by omega
            have hsz2 : (bytesOf (c :: m)).size = (c :: m).length := rfl
            generalize (c :: m).drop tn = w at hE hw hdl
            generalize (c :: m).take tn = vv at hE hv htk
            generalize hml : (c :: m).length = ml at hw htn hsz2
            generalize bytesOf (c :: m) = bb at hv hw hz hsz hsz2 ⊢
            have hrb : restB (bytesOf (unquoteB vv)) w = if headIs 91 w = true then (if endB w = 0 then (e0, [], false) else (⟨true, bytesOf (unquoteB vv), (parseAllB (innerB w)).1⟩, w.drop (endB w), decide ((parseAllB (innerB w)).2 = 0) && decide (0 < (parseAllB (innerB w)).1.length)))
              else (⟨true, bytesOf (unquoteB vv), []⟩, w, true) := rfl
            rw [hrb] at hE
            refine hC.vc [] 60 ?_
            simp [h0, hz, h34, hsz, hsz2, htn, hv]
            refine ⟨by omega, ?_⟩
            refine hC.call [] (f77 tabs vv htk) (by simp) ?_
            refine hC.vc [] 60 ?_
            simp [hsz2, htn, hw]
            refine hC.call [] (f78 tabs (bytesOf w) (sgn 91)) (by simp) ?_
            rw [hasPre_byte, headIs_takes]
            cases h91 : headIs 91 w with
            | false =>
              rw [h91, if_neg (by simp)] at hE
              rw [hE] at hC
              refine hC.vc [] 60 ?_
              simp [Ent.av, Ent.cells]
            | true =>
              rw [h91, if_pos rfl] at hE
              refine hC.vc [] 60 ?_
              simp
              refine hC.call [] (f76 tabs w (by omega)) (by simp) ?_
              by_cases hw0 : endB w = 0
              · rw [if_pos hw0] at hE
                rw [hw0]
                rw [hE] at hC
                refine hC.vc [] 60 ?_
                simp [Ent.av, e0_cells, hb0]
              · rw [if_neg hw0] at hE
                obtain ⟨k1, k2⟩ := end_two (.inl rfl) h91 hw0
                have hin : innerB w = (w.take (endB w - 1)).drop 1 := rfl
                have hinl : (innerB w).length ≤ 12000 := by rw [hin, List.length_drop, List.length_take]; omega
                generalize endB w = en at hE hw0 k1 k2 hin ⊢
                have hwe := wr64 ((en : Int) - 1) (by omega)
                have hen : ((en : Int) - 1).toNat = en - 1 := by omega
                have hx1 : (bytesOf w).extract 1 (en - 1) = bytesOf (innerB w) := by rw [extract_td, hin]
                have hx2 : (bytesOf w).extract en w.length = bytesOf (w.drop en) := extract_drop _ _
                generalize innerB w = inn at hE hinl hx1
                generalize w.drop en = wd at hE hx2
                generalize hpa : parseAllB inn = pa at hE
                obtain ⟨pl, pe⟩ := pa
                simp only at hE
                have hfa := f79 inn (by omega)
                rw [hpa] at hfa
                simp only at hfa
                refine hC.vc [] 60 ?_
                simp [hw0, bytesOf_size, hwe, hen, hx1]
                refine ⟨by omega, ?_⟩
                refine hC.call [] hfa (by simp) ?_
                rw [hE] at hC
                refine hC.vc [] 60 ?_
                by_cases hpe : pe = 0
                · by_cases hpl : 0 < pl.length
                  · simp [bytesOf_size, k2, hx2, hpe, hpl, Ent.av, Ent.cells]
                  · simp [bytesOf_size, k2, hx2, hpe, hpl, Ent.av, Ent.cells]
                · simp [bytesOf_size, k2, hx2, hpe, Ent.av, Ent.cells]
          · have hc : ¬ c = 34 := fun e => h34 (l34.2 e)
            rw [if_neg (fun h => by have := h.2.2; simp [headIs, hc] at this)] at hE
            rw [hE] at hC
            refine hC.vc [] 60 ?_
            simp [h0, hz, h34, hsz, Ent.av, e0_cells, hb0]
end Go.Proofs.D
