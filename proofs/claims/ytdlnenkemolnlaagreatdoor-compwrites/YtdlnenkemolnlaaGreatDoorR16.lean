/-
  THE ANSWER TO CHAPTER 2: the node of a text.
-/
import Derived.Test.YtdlnenkemolnlaaGreatDoorR11
import Derived.Test.YtdlnenkemolnlaaGreatDoorK22
import Derived.Test.YtdlnenkemolnlaaGreatDoorK23
set_option linter.unusedVariables false
set_option linter.unusedSimpArgs false
namespace Go.Proofs.D
open Go Go.Abs Go.RowKit
attribute [local simp] VC VCS stepVS stepTopS firstId memN bigB unmark markT mkOff calmP keepT boundB stepV stepTop stepReg stepOp stMove stPick stBin stUn stConv stBox stAlloc stLoad stStore stFieldAddr stField stExtract stNilCheck stMakeFunc stIndexAddr stIndex stLen
  stBuild placesOf fillA stBuildSlice sliceCells repL chunks allPV toPV drawOk drawOk.go mayMakeO mayMake1 disjoint pairOk Oper.apart Oper.looksAt Op.operands Call.operands Region.binds stAppend appBase appTail unName stSlice bndA
  LS.ev LS.get LS.blk LS.put LS.app LS.upd lkS lkH setS setH Nm.eqb guardOf nexts okPair dstOk AV.cellsOf takeAt putAt lkT sliceE fieldT intK isStrT isBoolT abin newOk LS.freshB LS.freshB.go LS.freshB.goH notIn AV.ments AV.ments.mentsL Blk.ments makes upsMents LS.start startL exitTo T T3 T4 outs callSideR callSideO callSideD upsR backO freshAll argB onlyIO List.map List.append List.nil_append List.cons_append Nat.blt
  conv convS convH srcs srcOf blkOk leA leA.leL Go.Abs.leB leP laid laidM isArg subH retP resAV resL res1 AV.frz AV.frz.frzL evL AV.ren AV.ren.renL Blk.ren renBs blksOf allSome nodupB onlyArgs blksMents callUps keyed inName inName.go backName callSide
theorem ix_self (S : Bs) : ix S S = 0 := by simp [ix]
theorem g153 (Gl : Granted) (S : Bs) (hS : S.length ≤ 1000000) : Fun Tryz.prog Gl 153 [.ptr (.arg 0) 0] [some (rdA S S false)] (readR S).1.av [some (rdA S (readR S).2.1 (readR S).2.2)] := by
  have hw := wr64 ((S.length : Int) + 1) (by omega)
  have hc := g183 Gl S hS (S.length + 1) (by omega) S (List.suffix_refl S)
  have hr : nodeR (S.length + 1) (S, false) = readR S := rfl
  rw [hr] at hc
  generalize readR S = r at hc ⊢
  refine fun_of (T := T4) (n := 11) (rs := [.cell 2 87]) Tryz.func153 (by kernel_rfl) rfl rfl rfl tok4 mixed (by simp) fun C hC => ?_
  refine hC.go [] 60 ?_
  simp [bsl, hw]
  refine hC.call [.arg 0] hc (by simp [N.av, N.cells]) ?_
  refine hC.go [] 60 ?_
  simp [N.av, N.cells]
set_option maxRecDepth 20000 in
set_option maxHeartbeats 4000000 in
theorem g127 (Gl : Granted) (s : Bs) (hs : s.length ≤ 15000) : Fun Tryz.prog Gl 127 [vS (bs s)] [] (.tup [(parseN s).1.av, vI (parseN s).2]) [] := by
  have hp := readR_parse s
  have hwt : (readR s).2.2 = false → (readR s).1.wt ≤ 100000 := fun h => by
    obtain ⟨h1, h2⟩ := read_alike s
    rw [h2 h]
    have := node_wt s
    unfold readN
    omega
  have hc := g153 Gl s (by omega)
  have hsf : (readR s).2.1 <:+ s := nodeR_suf _ _
  generalize readR s = r at hp hwt hc hsf
  obtain ⟨n, l, b⟩ := r
  simp only at hp hwt hc hsf
  rw [hp]
  have hix : (ix s l : Int) = s.length ↔ l = [] := by
    have := hsf.length_le
    unfold ix
    constructor
    · intro h; exact List.eq_nil_of_length_eq_zero (by omega)
    · intro h; subst h; simp
  have hi0 := ix_self s
  have hz0 : n0.av = .agg [vS ⟨#[]⟩, vS ⟨#[]⟩, .pv (strs []), .pv (pairs []), .pv (nodes [])] := rfl
  refine fun_of (T := T4) (n := 44) (rs := [.cell 2 87, .tmp 3]) Tryz.func127 (by kernel_rfl) rfl rfl rfl tok4 mixed (by simp) fun C hC => ?_
  refine hC.go [] 60 ?_
  simp
  refine hC.call [.loc 9] hc (by simp [N.av, N.cells, hi0]) ?_
  cases b with
  | true =>
    rw [if_pos (.inl rfl)] at hC
    simp only [hz0] at hC
    refine hC.go [] 60 ?_
    simp [N.av, N.cells]
  | false =>
    have hwt := hwt rfl
    by_cases hl : l = []
    · subst hl
      have hin := ix_nil s
      refine hC.go [] 60 ?_
      simp [N.av, N.cells, hin, bsl]
      refine hC.call [] (g123 Gl n hwt) (by simp [N.av, N.cells]) ?_
      have hbe : (bs n.w = bs s) = (n.w = s) := propext ⟨fun h => by have := congrArg (fun x : ByteArray => x.data.toList) h; simpa [bs_list] using this, fun h => by rw [h]⟩
      by_cases hw : n.w = s
      · refine hC.go [] 60 ?_
        simp [hbe, hw]
        refine hC.call [] (g74 Gl n hwt) (by simp [N.av, N.cells]) ?_
        cases hf : n.form with
        | false =>
          rw [if_pos (by simp [hf])] at hC
          simp only [hz0] at hC
          refine hC.go [] 60 ?_
          simp [N.av, N.cells]
        | true =>
          rw [if_neg (by simp [hf, hw])] at hC
          refine hC.go [] 60 ?_
          simp
          refine hC.call [] (g39 Gl n hwt) (by simp [N.av, N.cells]) ?_
          by_cases hc0 : n.check = 0
          · rw [if_pos hc0] at hC
            refine hC.go [] 60 ?_
            simp [N.av, N.cells, hc0]
          · rw [if_neg hc0] at hC
            simp only [hz0] at hC
            refine hC.go [] 60 ?_
            simp [N.av, N.cells, hc0]
      · rw [if_pos (by simp [hw])] at hC
        simp only [hz0] at hC
        refine hC.go [] 60 ?_
        simp [hbe, hw, N.av, N.cells]
    · rw [if_pos (by simp [hl])] at hC
      simp only [hz0] at hC
      have hne : ¬ (ix s l : Int) = s.length := fun h => hl (hix.1 h)
      have hne' : ¬ ix s l = s.length := by omega
      refine hC.go [] 60 ?_
      simp [N.av, N.cells, bsl, hne, hne']
theorem g87 (Gl : Granted) (s : Bs) (hs : s.length ≤ 14000) : Fun Tryz.prog Gl 87 [vS (bs s)] [] (.tup [.pv (nodes (parseAllB s).1), vI (parseAllB s).2]) [] := by
  have k1 : (⟨#[120, 91]⟩ : ByteArray) = bs [120, 91] := rfl
  have k2 : (⟨#[93]⟩ : ByteArray) = bs [93] := rfl
  refine fun_of (T := T4) (n := 16) (rs := [.tmp 2, .tmp 3]) Tryz.func87 (by kernel_rfl) rfl rfl rfl tok4 mixed (by simp) fun C hC => ?_
  refine hC.go [] 60 ?_
  simp [k1, k2, bs_app, bsl]
  repeat (refine ⟨by omega, ?_⟩)
  refine hC.call [] (g127 Gl (120 :: 91 :: (s ++ [93])) (by simp; omega)) (by simp [N.av, N.cells]) ?_
  refine hC.go [] 60 ?_
  simp [N.av, N.cells, parseAllB]
end Go.Proofs.D
/-
  THE ANSWER TO CHAPTER 15: quoted texts, brackets.
-/
set_option linter.unusedVariables false
set_option linter.unusedSimpArgs false
namespace Go.Proofs.D
open Go Go.Abs Go.RowKit
attribute [local simp] VC VCS stepVS stepTopS firstId memN bigB unmark markT mkOff calmP keepT boundB stepV stepTop stepReg stepOp stMove stPick stBin stUn stConv stBox stAlloc stLoad stStore stFieldAddr stField stExtract stNilCheck stMakeFunc stIndexAddr stIndex stLen
  stBuild placesOf fillA stBuildSlice sliceCells repL chunks allPV toPV drawOk drawOk.go mayMakeO mayMake1 disjoint pairOk Oper.apart Oper.looksAt Op.operands Call.operands Region.binds stAppend appBase appTail unName stSlice bndA
  LS.ev LS.get LS.blk LS.put LS.app LS.upd lkS lkH setS setH Nm.eqb guardOf nexts okPair dstOk AV.cellsOf takeAt putAt lkT sliceE fieldT intK isStrT isBoolT abin newOk LS.freshB LS.freshB.go LS.freshB.goH notIn AV.ments AV.ments.mentsL Blk.ments makes upsMents LS.start startL exitTo T T3 T4 outs callSideR callSideO callSideD upsR backO freshAll argB onlyIO List.map List.append List.nil_append List.cons_append Nat.blt
  conv convS convH srcs srcOf blkOk leA leA.leL Go.Abs.leB leP laid laidM isArg subH retP resAV resL res1 AV.frz AV.frz.frzL evL AV.ren AV.ren.renL Blk.ren renBs blksOf allSome nodupB onlyArgs blksMents callUps keyed inName inName.go backName callSide
theorem drop_at {S t : Bs} {i : Nat} {c : UInt8} (h : S.drop i = c :: t) : i < S.length ∧ byteAt (bs S) (i : Int) = (c.toNat : Int) ∧ S.drop (i + 1) = t ∧ (bs S).extract i (i + 1) = bs [c] := by
  have hlt : i < S.length := by
    rcases Nat.lt_or_ge i S.length with h1 | h1
    · exact h1
    · rw [List.drop_eq_nil_of_le h1] at h; cases h
  rw [List.drop_eq_getElem_cons hlt] at h
  simp only [List.cons.injEq] at h
  refine ⟨hlt, ?_, h.2, ?_⟩
  · rw [← h.1]; exact byteAt_of hlt
  · rw [← h.1]
    have := extract1 (bs S) i (by rw [bsl]; exact hlt)
    rw [this]
    simp [bs_list]
theorem drop_nil {S : Bs} {i : Nat} (h : S.drop i = []) : S.length ≤ i := List.drop_eq_nil_iff.1 h
theorem ix_drop {S r : Bs} (h : r <:+ S) : S.drop (ix S r) = r := (List.suffix_iff_eq_drop.1 h).symm
theorem drop_or (S : Bs) (i : Nat) : S.drop i = [] ∨ ∃ c t, S.drop i = c :: t := by cases S.drop i <;> simp
def quotedI (S : Bs) (i : Nat) : Int × Bs := match quotedX (S.drop i) with
  | none => (-1, [])
  | some p => (ix S p.2, p.1)
set_option maxRecDepth 20000 in
set_option maxHeartbeats 4000000 in
theorem g85 (Gl : Granted) (S : Bs) (i : Nat) (hS : S.length ≤ 1000000) (hi : i ≤ S.length + 1) : Fun Tryz.prog Gl 85 [vS (bs S), vI i] [] (.tup [vI (quotedI S i).1, vS (bs (quotedI S i).2)]) [] := by
  have k0 : (⟨#[]⟩ : ByteArray) = bs [] := rfl
  have hq : quotedI S i = match quotedX (S.drop i) with
    | none => (-1, [])
    | some p => (ix S p.2, p.1) := rfl
  refine fun_of (T := T4) (n := 50) (rs := [.tmp 4, .tmp 5]) Tryz.func85 (by kernel_rfl) rfl rfl rfl tok4 mixed (by simp) fun C hC => ?_
  cases hd : S.drop i with
  | nil =>
    have hge := drop_nil hd
    rw [hd] at hq
    simp only [quotedX] at hq
    rw [hq] at hC
    refine hC.go [] 60 ?_
    simp [bsl, hge, k0]
  | cons c t =>
    obtain ⟨h1, h2, h3, _⟩ := drop_at hd
    rw [hd] at hq
    by_cases hc : c = 34
    · subst hc
      have hb : byteAt (bs S) (i : Int) = 34 := h2
      simp only [quotedX, if_true] at hq
      have hge : ¬ S.length ≤ i := by omega
      have hw := wr64 ((i : Int) + 1) (by omega)
      refine hC.go [] 60 ?_
      simp [bsl, hge, h1, hb, hw]
      refine go_loop (ι := {x : Nat × Bs // x.1 ≤ S.length + 1 ∧ x.2.length ≤ x.1 ∧ quotedGo t [] = quotedGo (S.drop x.1) x.2}) (fun x => ⟨[(0, vS (bs S)), (6, vS (bs x.1.2)), (7, vI x.1.1)], []⟩)
        (fun x => S.length + 2 - x.1.1) ⟨(i + 1, []), by omega, by simp, by rw [h3]⟩ [] (by simp [k0]) fun x ih => ?_
      obtain ⟨⟨j, out⟩, hj, hol, hn⟩ := x
      simp only at hj hol hn ih
      rw [hn] at hq
      rcases drop_or S j with hd2 | ⟨d, u, hd2⟩
      · have hge2 := drop_nil hd2
        rw [hd2] at hq
        simp only [quotedGo] at hq
        rw [hq] at hC
        have hlt2 : ¬ j < S.length := by omega
        refine hC.go [] 60 ?_
        simp [bsl, hlt2, k0]
      · obtain ⟨j1, j2, j3, j4⟩ := drop_at hd2
        have hw2 := wr64 ((j : Int) + 1) (by omega)
        rw [hd2] at hq hn
        by_cases hd34 : d = 34
        · subst hd34
          have hb2 : byteAt (bs S) (j : Int) = 34 := by rw [j2]; rfl
          have hqq : quotedI S i = ((ix S u : Int), out) := by
            rw [hq]
            cases u <;> simp [quotedGo]
          have hux : (ix S u : Int) = (j : Int) + 1 := by
            have := congrArg List.length j3
            rw [List.length_drop] at this
            unfold ix
            omega
          rw [hqq] at hC
          refine hC.go [] 60 ?_
          simp [bsl, j1, hb2, hw2, hux]
        · have hb2 : ¬ byteAt (bs S) (j : Int) = 34 := by
            rw [j2]
            exact fun h => hd34 (UInt8.toNat_inj.1 (by have : (34 : UInt8).toNat = 34 := rfl; omega))
          by_cases hd92 : d = 92
          · subst hd92
            have hb3 : byteAt (bs S) (j : Int) = 92 := by rw [j2]; rfl
            cases u with
            | nil =>
              have hjl := drop_nil j3
              have hnl : ¬ j + 1 < S.length := by omega
              have hnl' : ¬ (j : Int) + 1 < S.length := by omega
              have hw3 := wr64 ((j : Int) + 1 + 1) (by omega)
              have hd4 : S.drop (j + 1 + 1) = [] := List.drop_eq_nil_of_le (by omega)
              have hn2 : quotedGo t [] = quotedGo (S.drop (j + 1 + 1)) out := by rw [hn, hd4]; simp [quotedGo]
              refine hC.go [] 60 ?_
              simp [bsl, j1, hb3, hw2, hnl', hw3]
              exact go_to [] (ih ⟨(j + 1 + 1, out), by omega, by simp only; omega, hn2⟩ (by simp; omega)) (by simp)
            | cons e u =>
              obtain ⟨m1, m2, m3, m4⟩ := drop_at j3
              have hlt2 : (j : Int) + 1 < S.length := by omega
              have hw3 := wr64 ((j : Int) + 1 + 1) (by omega)
              have hn2 : quotedGo t [] = quotedGo (S.drop (j + 1 + 1)) (out ++ [e]) := by rw [hn, m3]; simp [quotedGo]
              have he : ((j : Int) + 1 + 1).toNat = j + 1 + 1 := by omega
              refine hC.go [] 60 ?_
              simp [bsl, j1, hb3, hw2, hlt2, hw3, he, m4, bs_app]
              repeat (refine ⟨by omega, ?_⟩)
              exact go_to [] (ih ⟨(j + 1 + 1, out ++ [e]), by omega, by simp; omega, hn2⟩ (by simp; omega)) (by simp)
          · have hb3 : ¬ byteAt (bs S) (j : Int) = 92 := by
              rw [j2]
              exact fun h => hd92 (UInt8.toNat_inj.1 (by have : (92 : UInt8).toNat = 92 := rfl; omega))
            have hn2 : quotedGo t [] = quotedGo (S.drop (j + 1)) (out ++ [d]) := by
              rw [hn, j3]
              cases u with
              | nil => simp [quotedGo, hd34]
              | cons e u => simp [quotedGo, hd34, hd92]
            refine hC.go [] 60 ?_
            simp [bsl, j1, hb2, hb3, hw2, j4, bs_app]
            repeat (refine ⟨by omega, ?_⟩)
            exact go_to [] (ih ⟨(j + 1, out ++ [d]), by omega, by simp; omega, hn2⟩ (by simp; omega)) (by simp)
    · have hb : ¬ byteAt (bs S) (i : Int) = 34 := by
        rw [h2]
        exact fun h => hc (UInt8.toNat_inj.1 (by have : (34 : UInt8).toNat = 34 := rfl; omega))
      simp only [quotedX, hc, if_false] at hq
      rw [hq] at hC
      have hge : ¬ S.length ≤ i := by omega
      refine hC.go [] 60 ?_
      simp [bsl, hge, h1, hb, k0]
theorem lit_ne {c d : UInt8} {z : Int} (hz : z = (c.toNat : Int)) (h : ¬ c = d) : ¬ z = (d.toNat : Int) := fun e => h (UInt8.toNat_inj.1 (by omega))
def closedI (S : Bs) (o : Int) (i : Nat) : Int := match cGo o (S.drop i) with
  | none => -1
  | some r => ix S r
theorem opnX_bd (o : Int) (c : UInt8) : o - 1 ≤ opnX o c ∧ opnX o c ≤ o + 1 := by
  unfold opnX
  split
  · omega
  · split <;> omega
set_option maxRecDepth 20000 in
set_option maxHeartbeats 4000000 in
theorem g86 (Gl : Granted) (S : Bs) (i : Nat) (hS : S.length ≤ 1000000) (hi : i ≤ S.length) : Fun Tryz.prog Gl 86 [vS (bs S), vI i] [] (vI (closedI S 0 i)) [] := by
  refine fun_of (T := T4) (n := 46) (rs := [.tmp 4]) Tryz.func86 (by kernel_rfl) rfl rfl rfl tok4 mixed (by simp) fun C hC => ?_
  refine hC.go [] 60 ?_
  simp
  refine go_loop (ι := {x : Nat × Int // x.1 ≤ S.length ∧ closedI S 0 i = closedI S x.2 x.1 ∧ -(x.1 : Int) ≤ x.2 ∧ x.2 ≤ x.1}) (fun x => ⟨[(0, vS (bs S)), (5, vI x.1.2), (6, vI x.1.1)], []⟩)
    (fun x => S.length - x.1.1) ⟨(i, 0), hi, rfl, by omega⟩ [] (by simp) fun x ih => ?_
  obtain ⟨⟨j, o⟩, hj, hn, ho1, ho2⟩ := x
  simp only at hj hn ho1 ho2 ih
  have hcl : closedI S o j = match cGo o (S.drop j) with
    | none => -1
    | some r => ix S r := rfl
  rw [hcl] at hn
  rcases drop_or S j with hd | ⟨c, t, hd⟩
  · have hge := drop_nil hd
    have hlt : ¬ j < S.length := by omega
    rw [hd, cGo_nil] at hn
    rw [hn] at hC
    refine hC.go [] 60 ?_
    simp [bsl, hlt]
  · obtain ⟨h1, h2, h3, _⟩ := drop_at hd
    have hw1 := wr64 ((j : Int) + 1) (by omega)
    by_cases hc : c = 34
    · subst hc
      have hb : byteAt (bs S) (j : Int) = 34 := by rw [h2]; rfl
      rw [hd, cGo_quoted] at hn
      have hqi : quotedI S j = match quotedGo t [] with
          | none => (-1, [])
          | some p => ((ix S p.2 : Int), p.1) := by
        have : quotedI S j = match quotedX (S.drop j) with
          | none => (-1, [])
          | some p => ((ix S p.2 : Int), p.1) := rfl
        rw [this, hd]
        simp only [quotedX, if_true]
      refine hC.go [] 60 ?_
      simp [bsl, h1, hb]
      refine hC.call [] (g85 Gl S j hS (by omega)) (by simp) ?_
      cases hq : quotedGo t [] with
      | none =>
        rw [hq] at hn hqi
        simp only at hn hqi
        rw [hn] at hC
        rw [hqi]
        refine hC.go [] 60 ?_
        simp
      | some p =>
        rw [hq] at hn hqi
        simp only at hn hqi
        have hps : p.2 <:+ S := (quotedGo_suf _ _ _ hq).trans (by rw [← h3]; exact List.drop_suffix _ _)
        have hdp := ix_drop hps
        have hple := ix_le S p.2
        have hpl := quotedGo_le _ _ _ hq
        have htl : t.length = S.length - (j + 1) := by rw [← h3, List.length_drop]
        have hix : j < ix S p.2 := by unfold ix; simp at hpl; omega
        have hnn : ¬ (ix S p.2 : Int) < 0 := by omega
        have hw2 := wr64 ((ix S p.2 : Int) - 1) (by omega)
        have e1 : (ix S p.2 : Int) - 1 + 1 = ix S p.2 := by omega
        have hw3 := wr64 (ix S p.2 : Int) (by omega)
        have hn2 : closedI S 0 i = closedI S o (ix S p.2) := by
          rw [hn]
          unfold closedI
          rw [hdp]
        rw [hqi]
        refine hC.go [] 60 ?_
        simp [hnn, hw2, e1, hw3]
        exact go_to [] (ih ⟨(ix S p.2, o), hple, hn2, by omega, by omega⟩ (by simp; omega)) (by simp)
    · have hb := lit_ne h2 hc
      have hb : ¬ byteAt (bs S) (j : Int) = 34 := hb
      have hbd := opnX_bd o c
      rw [hd, cGo_cons o c t hc] at hn
      obtain ⟨o', ho'⟩ : ∃ o', opnX o c = o' := ⟨_, rfl⟩
      rw [ho'] at hn hbd
      have hsuf : t <:+ S := by rw [← h3]; exact List.drop_suffix _ _
      have hix : (ix S t : Int) = (j : Int) + 1 := by
        have := congrArg List.length h3
        rw [List.length_drop] at this
        unfold ix
        omega
      have hcases : (byteAt (bs S) (j : Int) = 91 ∧ o' = o + 1) ∨ (¬ byteAt (bs S) (j : Int) = 91 ∧ byteAt (bs S) (j : Int) = 93 ∧ o' = o - 1) ∨ (¬ byteAt (bs S) (j : Int) = 91 ∧ ¬ byteAt (bs S) (j : Int) = 93 ∧ o' = o) := by
        by_cases e91 : c = 91
        · left; subst e91; exact ⟨by rw [h2]; rfl, by rw [← ho']; simp [opnX]⟩
        · have n91 : ¬ byteAt (bs S) (j : Int) = 91 := lit_ne h2 e91
          by_cases e93 : c = 93
          · right; left; subst e93; exact ⟨n91, by rw [h2]; rfl, by rw [← ho']; simp [opnX]⟩
          · right; right; exact ⟨n91, lit_ne h2 e93, by rw [← ho']; simp [opnX, e91, e93]⟩
      have hwo := wr64 (o + 1) (by omega)
      have hwo2 := wr64 (o - 1) (by omega)
      have hn0 : o' = 0 → closedI S 0 i = (j : Int) + 1 := fun h => by rw [hn, if_pos h]; simp only; exact hix
      have hn1 : ¬ o' = 0 → closedI S 0 i = closedI S o' (j + 1) := fun h => by
        rw [hn, if_neg h]
        unfold closedI
        rw [h3]
      rcases hcases with ⟨b1, rfl⟩ | ⟨b1, b2, rfl⟩ | ⟨b1, b2, rfl⟩
      · have b1' : ¬ byteAt (bs S) (j : Int) = 93 := by omega
        by_cases hz : o + 1 = 0
        · rw [hn0 hz] at hC
          refine hC.go [] 60 ?_
          simp [bsl, h1, b1, hwo, hz, hw1, wr64 0 (by omega)]
        · refine hC.go [] 60 ?_
          simp [bsl, h1, b1, hwo, hz, hw1]
          exact go_to [] (ih ⟨(j + 1, o + 1), by omega, hn1 hz, by dsimp only; omega, by dsimp only; omega⟩ (by simp; omega)) (by simp)
      · by_cases hz : o - 1 = 0
        · rw [hn0 hz] at hC
          refine hC.go [] 60 ?_
          simp [bsl, h1, b2, hwo2, hz, hw1, wr64 0 (by omega)]
        · refine hC.go [] 60 ?_
          simp [bsl, h1, b2, hwo2, hz, hw1]
          exact go_to [] (ih ⟨(j + 1, o - 1), by omega, hn1 hz, by dsimp only; omega, by dsimp only; omega⟩ (by simp; omega)) (by simp)
      · by_cases hz : o' = 0
        · rw [hn0 hz] at hC
          refine hC.go [] 60 ?_
          simp [bsl, h1, hb, b1, b2, hz, hw1]
        · refine hC.go [] 60 ?_
          simp [bsl, h1, hb, b1, b2, hz, hw1]
          exact go_to [] (ih ⟨(j + 1, o'), by omega, hn1 hz, by dsimp only; omega, by dsimp only; omega⟩ (by simp; omega)) (by simp)
end Go.Proofs.D
/-
  THE ANSWER TO CHAPTER 15: the entry that begins at a place.
-/
set_option linter.unusedVariables false
set_option linter.unusedSimpArgs false
namespace Go.Proofs.D
open Go Go.Abs Go.RowKit
attribute [local simp] VC VCS stepVS stepTopS firstId memN bigB unmark markT mkOff calmP keepT boundB stepV stepTop stepReg stepOp stMove stPick stBin stUn stConv stBox stAlloc stLoad stStore stFieldAddr stField stExtract stNilCheck stMakeFunc stIndexAddr stIndex stLen
  stBuild placesOf fillA stBuildSlice sliceCells repL chunks allPV toPV drawOk drawOk.go mayMakeO mayMake1 disjoint pairOk Oper.apart Oper.looksAt Op.operands Call.operands Region.binds stAppend appBase appTail unName stSlice bndA
  LS.ev LS.get LS.blk LS.put LS.app LS.upd lkS lkH setS setH Nm.eqb guardOf nexts okPair dstOk AV.cellsOf takeAt putAt lkT sliceE fieldT intK isStrT isBoolT abin newOk LS.freshB LS.freshB.go LS.freshB.goH notIn AV.ments AV.ments.mentsL Blk.ments makes upsMents LS.start startL exitTo T T3 T4 outs callSideR callSideO callSideD upsR backO freshAll argB onlyIO List.map List.append List.nil_append List.cons_append Nat.blt
  conv convS convH srcs srcOf blkOk leA leA.leL Go.Abs.leB leP laid laidM isArg subH retP resAV resL res1 AV.frz AV.frz.frzL evL AV.ren AV.ren.renL Blk.ren renBs blksOf allSome nodupB onlyArgs blksMents callUps keyed inName inName.go backName callSide
def entryI (S : Bs) (i : Nat) : Ent × Int := match entryX (S.drop i) with
  | none => (e0, -1)
  | some p => (p.1, ix S p.2)
set_option maxRecDepth 20000 in
set_option maxHeartbeats 4000000 in
theorem g44 (Gl : Granted) (S : Bs) (i : Nat) (hS : S.length ≤ 13000) (hi : i ≤ S.length) : Fun Tryz.prog Gl 44 [vS (bs S), vI i] [] (.tup [(entryI S i).1.av, vI (entryI S i).2]) [] := by
  have k0 : (⟨#[]⟩ : ByteArray) = bs [] := rfl
  have he0 : e0.av = .agg [vB false, vS ⟨#[]⟩, .pv (nodes [])] := rfl
  have hq : entryI S i = match entryX (S.drop i) with
    | none => (e0, -1)
    | some p => (p.1, ix S p.2) := rfl
  have hw1 := wr64 ((i : Int) + 1) (by omega)
  have hcq := g85 Gl S (i + 1) (by omega) (by omega)
  have hi1 : (((i + 1 : Nat)) : Int) = (i : Int) + 1 := by omega
  rw [hi1] at hcq
  refine fun_of (T := T4) (n := 83) (rs := [.cell 4 101, .tmp 5]) Tryz.func44 (by kernel_rfl) rfl rfl rfl tok4 mixed (by simp) fun C hC => ?_
  rcases drop_or S i with hd | ⟨c, t, hd⟩
  · have hge := drop_nil hd
    have hlt : ¬ i < S.length := by omega
    have hqn : quotedI S (i + 1) = (-1, []) := by unfold quotedI; rw [List.drop_eq_nil_of_le (by omega)]; rfl
    rw [hd] at hq
    simp only [entryX] at hq
    rw [hq] at hC
    simp only [he0] at hC
    rw [hqn] at hcq
    refine hC.go [] 60 ?_
    simp [bsl, hlt, hw1]
    refine hC.call [] hcq (by simp) ?_
    refine hC.go [] 60 ?_
    simp [bsl, hge]
  · obtain ⟨h1, h2, h3, _⟩ := drop_at hd
    have hge : ¬ S.length ≤ i := by omega
    have hts : t <:+ S := by rw [← h3]; exact List.drop_suffix _ _
    have hixt : (ix S t : Int) = (i : Int) + 1 := by
      have := congrArg List.length h3
      rw [List.length_drop] at this
      unfold ix
      omega
    rw [hd] at hq
    by_cases hc : c = 45
    · subst hc
      have hb : byteAt (bs S) (i : Int) = 45 := by rw [h2]; rfl
      simp only [entryX, if_true] at hq
      rw [hixt] at hq
      rw [hq] at hC
      simp only [he0] at hC
      refine hC.go [] 60 ?_
      simp [bsl, h1, hb, hw1]
    · have hb : ¬ byteAt (bs S) (i : Int) = 45 := lit_ne h2 hc
      have hqi : quotedI S (i + 1) = match quotedX t with
          | none => (-1, [])
          | some p => ((ix S p.2 : Int), p.1) := by
        have : quotedI S (i + 1) = match quotedX (S.drop (i + 1)) with
          | none => (-1, [])
          | some p => ((ix S p.2 : Int), p.1) := rfl
        rw [this, h3]
      refine hC.go [] 60 ?_
      simp [bsl, h1, hb, hw1]
      refine hC.call [] hcq (by simp) ?_
      by_cases hc1 : c = 61
      · subst hc1
        have hb1 : byteAt (bs S) (i : Int) = 61 := by rw [h2]; rfl
        simp only [entryX, if_neg (show ¬ (61 : UInt8) = 45 by decide), if_true] at hq
        cases hx : quotedX t with
        | none =>
          rw [hx] at hqi hq
          simp only at hqi hq
          rw [hq] at hC
          simp only [he0] at hC
          rw [hqi]
          refine hC.go [] 60 ?_
          simp [bsl, h1, hge, hb1]
        | some p =>
          rw [hx] at hqi hq
          simp only at hqi hq
          obtain ⟨v, r⟩ := p
          obtain ⟨l1, l2⟩ := quotedX_len hx
          simp only at hqi hq l1 l2
          have hrs := l2.trans hts
          have hix := ix_le S r
          have hnn : ¬ (ix S r : Int) < 0 := by omega
          rw [hqi]
          by_cases h91 : headIs 91 r = true
          · obtain ⟨u, rfl⟩ := head_cons h91
            obtain ⟨j1, j2, j3, j4⟩ := suf_at hrs rfl
            have hbr : byteAt (bs S) (ix S (91 :: u) : Int) = 91 := by rw [j2]; rfl
            rw [if_pos h91] at hq
            have hcl : closedI S 0 (ix S (91 :: u)) = match cGo 0 (91 :: u) with
                | none => -1
                | some r => (ix S r : Int) := by
              unfold closedI
              rw [ix_drop hrs]
              try rfl
            have hcc := g86 Gl S (ix S (91 :: u)) (by omega) (by omega)
            refine hC.go [] 60 ?_
            simp [bsl, h1, hge, hb1, hnn, j1, hbr]
            refine hC.call [] hcc (by simp) ?_
            cases hg : cGo 0 (91 :: u) with
            | none =>
              rw [hg] at hcl hq
              simp only at hcl hq
              rw [hq] at hC
              simp only [he0] at hC
              rw [hcl]
              refine hC.go [] 60 ?_
              simp
            | some r2 =>
              rw [hg] at hcl hq
              simp only at hcl hq
              have h2l := cGo_two h91 hg
              obtain ⟨_, hs2⟩ := cGo_len _ _ _ _ (Nat.le_refl _) hg
              have hrs2 := hs2.trans hrs
              have hix2 := ix_le S r2
              have hnn2 : ¬ (ix S r2 : Int) < 0 := by omega
              have hlen := hrs.length_le
              have hlen2 := hrs2.length_le
              have hw3 := wr64 (((ix S r2 - 1 : Nat)) : Int) (by omega)
              have hw4 := wr64 ((ix S (91 :: u) : Int) + 1) (by omega)
              have hle : ix S (91 :: u) + 1 ≤ ix S r2 - 1 := by unfold ix; omega
              have hsub : (ix S r2 : Int) - 1 = ((ix S r2 - 1 : Nat) : Int) := by omega
              have hinx : (bs S).extract (ix S (91 :: u) + 1) (ix S r2 - 1) = bs (inX (91 :: u) r2) := by
                have e2 : u <:+ S := suf_tail hrs
                have e3 : ix S u = ix S (91 :: u) + 1 := j3
                have hin : inX (91 :: u) r2 ++ u.drop ((91 :: u).length - r2.length - 2) = u := by unfold inX; simp
                have h5 := ix_ext e2 (inX (91 :: u) r2) (u.drop ((91 :: u).length - r2.length - 2)) hin.symm
                rw [e3] at h5
                have e4 : ix S (u.drop ((91 :: u).length - r2.length - 2)) = ix S r2 - 1 := by
                  unfold ix
                  rw [List.length_drop]
                  simp only [List.length_cons] at h2l hlen ⊢
                  omega
                rw [e4] at h5
                exact h5
              have hpl : (inX (91 :: u) r2).length ≤ 13000 := by unfold inX; rw [List.length_take]; omega
              have hpc := g87 Gl (inX (91 :: u) r2) (by omega)
              generalize parseAllB (inX (91 :: u) r2) = pa at hq hpc
              obtain ⟨ns, pe⟩ := pa
              simp only at hq hpc
              rw [hcl]
              refine hC.go [] 60 ?_
              simp [bsl, hnn2, hw3, hw4, hsub, hinx]
              refine ⟨by omega, ?_⟩
              refine hC.call [] hpc (by simp) ?_
              by_cases hpe : pe = 0
              · rw [if_pos hpe] at hq
                rw [hq] at hC
                refine hC.go [] 60 ?_
                simp [hpe, Ent.av, Ent.cells, bo]
              · rw [if_neg hpe] at hq
                rw [hq] at hC
                simp only [he0] at hC
                refine hC.go [] 60 ?_
                simp [hpe]
          · have h91' : headIs 91 r = false := by simpa using h91
            rw [if_neg h91] at hq
            rw [hq] at hC
            refine hC.go [] 60 ?_
            cases r with
            | nil =>
              have hin := ix_nil S
              have hn0 : ¬ (S.length : Int) < 0 := by omega
              simp [bsl, h1, hge, hb1, hnn, hin, hn0, Ent.av, Ent.cells, bo]
            | cons x u =>
              obtain ⟨j1, j2, j3, j4⟩ := suf_at hrs rfl
              have hbr : ¬ byteAt (bs S) (ix S (x :: u) : Int) = 91 := lit_ne (d := 91) j2 (by simpa [headIs] using h91')
              simp [bsl, h1, hge, hb1, hnn, j1, hbr, Ent.av, Ent.cells, bo]
      · have hb1 : ¬ byteAt (bs S) (i : Int) = 61 := lit_ne h2 hc1
        simp only [entryX, if_neg hc, if_neg hc1] at hq
        rw [hq] at hC
        simp only [he0] at hC
        refine hC.go [] 60 ?_
        simp [bsl, h1, hge, hb1]
end Go.Proofs.D
/-
  THE ANSWER TO CHAPTER 15: the complement of a text.
-/
set_option linter.unusedVariables false
set_option linter.unusedSimpArgs false
namespace Go.Proofs.D
open Go Go.Abs Go.RowKit
attribute [local simp] VC VCS stepVS stepTopS firstId memN bigB unmark markT mkOff calmP keepT boundB stepV stepTop stepReg stepOp stMove stPick stBin stUn stConv stBox stAlloc stLoad stStore stFieldAddr stField stExtract stNilCheck stMakeFunc stIndexAddr stIndex stLen
  stBuild placesOf fillA stBuildSlice sliceCells repL chunks allPV toPV drawOk drawOk.go mayMakeO mayMake1 disjoint pairOk Oper.apart Oper.looksAt Op.operands Call.operands Region.binds stAppend appBase appTail unName stSlice bndA
  LS.ev LS.get LS.blk LS.put LS.app LS.upd lkS lkH setS setH Nm.eqb guardOf nexts okPair dstOk AV.cellsOf takeAt putAt lkT sliceE fieldT intK isStrT isBoolT abin newOk LS.freshB LS.freshB.go LS.freshB.goH notIn AV.ments AV.ments.mentsL Blk.ments makes upsMents LS.start startL exitTo T T3 T4 outs callSideR callSideO callSideD upsR backO freshAll argB onlyIO List.map List.append List.nil_append List.cons_append Nat.blt
  conv convS convH srcs srcOf blkOk leA leA.leL Go.Abs.leB leP laid laidM isArg subH retP resAV resL res1 AV.frz AV.frz.frzL evL AV.ren AV.ren.renL Blk.ren renBs blksOf allSome nodupB onlyArgs blksMents callUps keyed inName inName.go backName callSide
set_option maxRecDepth 20000 in
set_option maxHeartbeats 4000000 in
theorem g13 (Gl : Granted) (S : Bs) (hS : S.length ≤ 12000) : Fun Tryz.prog Gl 13 [vS (bs S)] [] (.tup [.pv (comp (parseC S).1), vI (parseC S).2]) [] := by
  rw [← parseX_eq]
  have hpx : parseX S = match pLoopX [] [] S with
    | none => ([], 2)
    | some c => if okC c = true ∧ compB c = S then (c, 0) else ([], 2) := rfl
  refine fun_of (T := T4) (n := 56) (rs := [.tmp 2, .tmp 3]) Tryz.func13 (by kernel_rfl) rfl rfl rfl tok4 mixed (by simp) fun C hC => ?_
  refine hC.go [] 60 ?_
  simp
  refine go_loop (ι := {x : Cm × List Ent × Nat // x.2.2 ≤ S.length ∧ pLoopX [] [] S = pLoopX x.1 x.2.1 (S.drop x.2.2) ∧ x.1.length ≤ x.2.2 ∧ x.2.1.length ≤ x.2.2})
    (fun x => ⟨[(0, vS (bs S)), (4, .own (.can 0)), (5, .own (.can 1)), (6, vI x.1.2.2)], [(.can 0, some (.row 100 1 (x.1.1.map fun l => [slot l]))), (.can 1, some (.row 101 3 (x.1.2.1.map Ent.pv)))]⟩)
    (fun x => S.length - x.1.2.2) ⟨([], [], 0), by simp⟩ [(.can 0, .nil), (.can 1, .nil)] (by simp) fun x ih => ?_
  obtain ⟨⟨c, s, i⟩, hi, hn, hcl, hsl⟩ := x
  simp only at hi hn hcl hsl ih
  rcases drop_or S i with hd | ⟨y, t, hd⟩
  · have hge := drop_nil hd
    have hlt : ¬ i < S.length := by omega
    rw [hd, pLoopX_nil] at hn
    have hwt := pLoopX_wt _ _ _ S c (Nat.le_refl _) hn
    simp only [compWt, List.map_nil, List.sum_nil, Nat.zero_add] at hwt
    rw [hn] at hpx
    simp only at hpx
    have hpc := g10 Gl c (by unfold compWt; omega)
    refine hC.til [16] [] 60 ?_
    simp [bsl, hlt]
    refine go_to (M := ⟨[(0, vS (bs S)), (4, .pv (comp c))], []⟩) [] (hC.go [] 60 ?_) (by simp)
    simp
    refine hC.call [] hpc (by simp) ?_
    have hbe : (bs (compB c) = bs S) = (compB c = S) := propext ⟨fun h => by have := congrArg (fun x : ByteArray => x.data.toList) h; simpa [bs_list] using this, fun h => by rw [h]⟩
    cases hok : okC c with
    | false =>
      have e1 : printC c = ⟨#[]⟩ := by rw [printC, hok]; rfl
      have e2 : printE c = 2 := by rw [printE, hok]; rfl
      rw [if_neg (by simp [hok])] at hpx
      rw [hpx] at hC
      rw [e1, e2]
      refine hC.til [18] [] 60 ?_
      simp
      refine hC.go [] 4 ?_
      simp
      exact go_to (M := ⟨[(2, .pv (comp [])), (3, vI 2)], []⟩) [] (hC.go [] 5 (by simp)) (by simp)
    | true =>
      have e1 : printC c = bs (compB c) := by rw [printC, hok]; rfl
      have e2 : printE c = 0 := by rw [printE, hok]; rfl
      rw [e1, e2]
      by_cases he : compB c = S
      · rw [if_pos ⟨hok, he⟩] at hpx
        rw [hpx] at hC
        refine hC.go [] 60 ?_
        simp [hbe, he]
      · rw [if_neg (fun h => he h.2)] at hpx
        rw [hpx] at hC
        refine hC.til [18] [] 60 ?_
        simp [hbe, he]
        refine hC.go [] 4 ?_
        simp
        exact go_to (M := ⟨[(2, .pv (comp [])), (3, vI 2)], []⟩) [] (hC.go [] 5 (by simp)) (by simp)
  · obtain ⟨h1, h2, h3, _⟩ := drop_at hd
    have hw1 := wr64 ((i : Int) + 1) (by omega)
    rw [hd] at hn
    by_cases hy : y = 10
    · subst hy
      have hb : byteAt (bs S) (i : Int) = 10 := by rw [h2]; rfl
      rw [pLoopX_line, ← h3] at hn
      refine hC.til [6] [] 60 ?_
      simp [bsl, h1, hb]
      refine go_to (M := ⟨[(0, vS (bs S)), (4, .own (.can 0)), (5, .pv (slot s)), (6, vI i)], [(.can 0, some (.row 100 1 (c.map fun l => [slot l])))]⟩) [] (hC.go [] 60 ?_) (by simp)
      simp [hw1]
      refine ⟨by omega, ?_⟩
      exact go_to [(.can 0, .nm (.loc 22)), (.can 1, .nil)] (ih ⟨(c ++ [s], [], i + 1), by dsimp only; omega, hn, by simp; omega, by simp⟩ (by simp; omega)) (by simp)
    · have hb : ¬ byteAt (bs S) (i : Int) = 10 := lit_ne h2 hy
      rw [pLoopX_ent _ _ _ _ hy] at hn
      have hdi : ∃ j : Nat, i ≤ j ∧ j ≤ S.length ∧ dropIf s (y :: t) = S.drop j ∧ (if 0 < s.length then (i : Int) + 1 else i) = j := by
        unfold dropIf
        by_cases h0 : 0 < s.length
        · exact ⟨i + 1, by omega, by omega, by rw [if_pos h0, h3]; rfl, by simp [h0]⟩
        · exact ⟨i, by omega, by omega, by rw [if_neg h0, hd], by simp [h0]⟩
      obtain ⟨j, hij, hj, hdj, hji⟩ := hdi
      rw [hdj] at hn
      have hec := g44 Gl S j (by omega) hj
      have hei : entryI S j = match entryX (S.drop j) with
        | none => (e0, -1)
        | some p => (p.1, ix S p.2) := rfl
      refine hC.til [1009] [] 60 ?_
      simp [bsl, h1, hb]
      refine go_cut (ι := Unit) (fun _ => ⟨[(0, vS (bs S)), (4, .own (.can 0)), (5, .own (.can 1)), (6, vI j)], [(.can 0, some (.row 100 1 (c.map fun l => [slot l]))), (.can 1, some (.row 101 3 (s.map Ent.pv)))]⟩) (fun _ => ?_) (fun tail => ?_)
      · refine hC.go [] 60 ?_
        simp
        refine hC.call [] hec (by simp [Ent.av, Ent.cells]) ?_
        cases hx : entryX (S.drop j) with
        | none =>
          rw [hx] at hei hn
          simp only at hei hn
          rw [hn] at hpx
          simp only at hpx
          rw [hpx] at hC
          rw [hei]
          refine hC.til [13] [] 60 ?_
          simp [Ent.av, Ent.cells]
          refine hC.go [] 4 ?_
          simp
          exact go_to (M := ⟨[(2, .pv (comp [])), (3, vI 2)], []⟩) [] (hC.go [] 5 (by simp)) (by simp)
        | some p =>
          rw [hx] at hei hn
          simp only at hei hn
          obtain ⟨e, r⟩ := p
          obtain ⟨l1, l2, _⟩ := entryX_len hx
          simp only at hei hn l1 l2
          have hrs : r <:+ S := l1.trans (List.drop_suffix _ _)
          have hle := ix_le S r
          have hnn : ¬ (ix S r : Int) < 0 := by omega
          rw [List.length_drop] at l2
          have hgt : i < ix S r := by unfold ix; omega
          rw [← ix_drop hrs] at hn
          rw [hei]
          refine hC.go [] 60 ?_
          simp [Ent.av, Ent.cells, hnn]
          refine ⟨by omega, ?_⟩
          exact go_to [(.can 1, .nm (.loc 41))] (ih ⟨(c, s ++ [e], ix S r), hle, hn, by dsimp only; omega, by simp; omega⟩ (by simp; omega)) (by simp [Ent.pv_eq'])
      · refine hC.til [1011, 11] [] 60 ?_
        by_cases h0 : 0 < s.length
        · rw [if_pos h0] at hji
          simp [h0, hw1]
          exact go_to [] (tail ()) (by simp [hji])
        · rw [if_neg h0] at hji
          simp [h0]
          exact go_to [] (tail ()) (by simp [hji])
end Go.Proofs.D
/-
  THE LAW CompWrites.
-/
set_option linter.unusedVariables false
set_option linter.unusedSimpArgs false
namespace Go.Proofs.D
open Go Go.Abs Go.RowKit
attribute [local simp] VC VCS stepVS stepTopS firstId memN bigB unmark markT mkOff calmP keepT boundB stepV stepTop stepReg stepOp stMove stPick stBin stUn stConv stBox stAlloc stLoad stStore stFieldAddr stField stExtract stNilCheck stMakeFunc stIndexAddr stIndex stLen
  stBuild placesOf fillA stBuildSlice sliceCells repL chunks allPV toPV drawOk drawOk.go mayMakeO mayMake1 disjoint pairOk Oper.apart Oper.looksAt Op.operands Call.operands Region.binds stAppend appBase appTail unName stSlice bndA
  LS.ev LS.get LS.blk LS.put LS.app LS.upd lkS lkH setS setH Nm.eqb guardOf nexts okPair dstOk AV.cellsOf takeAt putAt lkT sliceE fieldT intK isStrT isBoolT abin newOk LS.freshB LS.freshB.go LS.freshB.goH notIn AV.ments AV.ments.mentsL Blk.ments makes upsMents LS.start startL exitTo T T3 T4 outs callSideR callSideO callSideD upsR backO freshAll argB onlyIO List.map List.append List.nil_append List.cons_append Nat.blt
  conv convS convH srcs srcOf blkOk leA leA.leL Go.Abs.leB leP laid laidM isArg subH retP resAV resL res1 AV.frz AV.frz.frzL evL AV.ren AV.ren.renL Blk.ren renBs blksOf allSome nodupB onlyArgs blksMents callUps keyed inName inName.go backName callSide
set_option maxRecDepth 20000 in
set_option maxHeartbeats 4000000 in
theorem g3 (a b : Cm) (t : Bs) (hsa : ∀ l ∈ a, ∀ e ∈ l, Ent.small e) (hsb : ∀ l ∈ b, ∀ e ∈ l, Ent.small e) : Fun Tryz.prog tabs 3 [.pv (comp a), .pv (comp b), vT t] [] (vB true) [] := by
  refine fun_of (T := T4) (n := 90) (rs := [.tmp 6]) Tryz.func3 (by kernel_rfl) rfl rfl rfl tok4 mixed (by simp) fun C hC => ?_
  refine hC.go [] 60 ?_
  simp
  refine hC.call [] f21 (by simp) ?_
  refine hC.go [] 60 ?_
  simp
  refine hC.call [] (f22 tabs a hsa) (by simp) ?_
  refine hC.go [] 60 ?_
  simp
  refine hC.call [] (f22 tabs b hsb) (by simp) ?_
  by_cases h1 : compWt a < 1500
  · by_cases h2 : compWt b < 1500
    · by_cases h3 : 1500 < (t.length : Int)
      · refine hC.go [] 60 ?_
        simp [h1, h2, h3, bytesOf_size]
      · have hla := fun l hl => Nat.le_trans (Nat.le_trans (slot_lens l) (slot_mem (c := a) hl)) (by omega : compWt a ≤ 1000000)
        have hlb := fun l hl => Nat.le_trans (Nat.le_trans (slot_lens l) (slot_mem (c := b) hl)) (by omega : compWt b ≤ 1000000)
        have hca := comp_lens a
        have hcb := comp_lens b
        have hwt := parseC_wt t
        have hcp := comp_lens (parseC t).1
        have hlp := fun l hl => Nat.le_trans (Nat.le_trans (slot_lens l) (slot_mem (c := (parseC t).1) hl)) (by omega : compWt (parseC t).1 ≤ 1000000)
        have hbo : vT t = vS (bs t) := rfl
        refine hC.go [] 60 ?_
        simp [h1, h2, h3, bytesOf_size]
        refine hC.call [] (f23 a (by omega)) (by simp) ?_
        refine hC.go [] 60 ?_
        simp
        refine hC.call [] (g11 tabs a (by omega) hla) (by simp) ?_
        refine hC.go [] 60 ?_
        simp
        refine hC.call [] (g10 tabs a (by omega)) (by simp) ?_
        refine hC.go [] 60 ?_
        simp
        refine hC.call [] (f27 t (by omega)) (by simp) ?_
        refine hC.go [] 60 ?_
        simp
        refine hC.call [] (g13 tabs t (by omega)) (by simp [bo]) ?_
        refine hC.til [10] [] 60 ?_
        simp
        refine hC.go [] 60 ?_
        simp
        refine hC.call [] (g11 tabs (parseC t).1 (by omega) hlp) (by simp) ?_
        refine hC.go [] 60 ?_
        simp
        refine hC.call [] (g14 tabs (parseC t).1 (parseC t).1 hlp) (by simp) ?_
        refine hC.go [] 60 ?_
        simp
        refine hC.call [] (f24 tabs a b) (by simp) ?_
        refine hC.go [] 60 ?_
        simp
        refine hC.call [] (g11 tabs a (by omega) hla) (by simp) ?_
        refine hC.go [] 60 ?_
        simp
        refine hC.call [] (g11 tabs b (by omega) hlb) (by simp) ?_
        refine hC.go [] 60 ?_
        simp
        refine hC.call [] (g14 tabs a b hla) (by simp) ?_
        refine hC.go [] 60 ?_
        simp
    · refine hC.go [] 60 ?_
      simp [h1, h2]
  · refine hC.go [] 60 ?_
    simp [h1]
end Go.Proofs.D
