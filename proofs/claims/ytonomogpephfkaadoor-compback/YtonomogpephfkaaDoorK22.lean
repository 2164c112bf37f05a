/-
  COMPLEMENTS: an entry, read.
-/
import Derived.Test.YtonomogpephfkaaDoorK21
set_option linter.unusedVariables false
set_option linter.unusedSimpArgs false
set_option linter.unusedSimpArgs false
namespace Go.Proofs.D
open Go Go.Abs Go.RowKit
attribute [local simp] VC stepV stepTop stepReg stepOp stMove stPick stBin stUn stConv stBox stAlloc stLoad stStore stFieldAddr stField stExtract stNilCheck stMakeFunc stIndexAddr stIndex stLen
  stBuild placesOf fillA stBuildSlice sliceCells repL chunks allPV toPV drawOk drawOk.go mayMakeO mayMake1 disjoint pairOk Oper.apart Oper.looksAt Op.operands Call.operands Region.binds stAppend appBase appTail unName stSlice bndA
  LS.ev LS.get LS.blk LS.put LS.app LS.upd lkS lkH setS setH Nm.eqb guardOf nexts okPair dstOk AV.cellsOf takeAt putAt lkT sliceE fieldT intK isStrT isBoolT abin newOk LS.freshB LS.freshB.go LS.freshB.goH notIn AV.ments AV.ments.mentsL Blk.ments makes upsMents LS.start startL exitTo T T3 outs callSideO callSideD upsR backO freshAll argB onlyIO List.map List.append List.nil_append List.cons_append Nat.blt
  conv convS convH srcs srcOf blkOk leA leA.leL leB leP laid laidM isArg subH retP resAV resL res1 AV.frz AV.frz.frzL evL AV.ren AV.ren.renL Blk.ren renBs blksOf allSome nodupB onlyArgs blksMents callUps keyed inName inName.go backName callSide
theorem extract_td (l : Bs) (a b : Nat) : (bytesOf l).extract a b = bytesOf ((l.take b).drop a) := bsExt (by
  simp [bytesOf, ByteArray.data_extract, List.drop_take])
theorem e0_cells : e0.cells = [vB false, vS ⟨#[]⟩, .pv (nodes [])] := rfl
theorem fst_byte {c : UInt8} {l : Bs} {d : UInt8} (z : Int) (hz : byteAt (bytesOf (c :: l)) 0 = z) : z = (d.toNat : Int) ↔ c = d := by
  have := byteAt0 c l
  rw [hz] at this
  exact u8_lit this d
set_option maxRecDepth 20000 in
set_option maxHeartbeats 4000000 in
theorem f51 (t : Bs) (hl : t.length ≤ 12000) : Fun Tryd.prog tabs 51 [vT t] [] (.tup [(entryB t).1.av, vT (entryB t).2.1, vB (entryB t).2.2]) [] := by
  have hE : entryB t = if headIs 45 t = true then (e0, t.drop 1, true)
    else if headIs 61 t = true ∧ endB (t.drop 1) ≠ 0 ∧ headIs 34 (t.drop 1) = true then restB (bytesOf (unquoteB ((t.drop 1).take (endB (t.drop 1))))) ((t.drop 1).drop (endB (t.drop 1)))
    else (e0, [], false) := rfl
  have hb0 : bytesOf [] = ⟨#[]⟩ := rfl
  have htr45 : headIs 45 t = true → trimB 45 t = t.drop 1 := fun h => by rw [trimB, h, if_pos rfl]
  have htr61 : headIs 61 t = true → trimB 61 t = t.drop 1 := fun h => by rw [trimB, h, if_pos rfl]
  have hul : (t.drop 1).length ≤ 12000 := by rw [List.length_drop]; omega
  obtain ⟨u, hu⟩ : ∃ u, t.drop 1 = u := ⟨_, rfl⟩
  rw [hu] at hE htr45 htr61 hul
  refine fun_of (T := T3) (n := 78) (rs := [.cell 2 70, .tmp 3, .tmp 4]) Tryd.func51 (by kernel_rfl) rfl rfl rfl tok3 mixed (by simp) fun C hC => ?_
  refine hC.vc [] 60 ?_
  simp
  refine hC.call [] (f50b tabs 45 t) (by simp) ?_
  cases h45 : headIs 45 t with
  | true =>
    rw [h45, if_pos rfl] at hE
    rw [htr45 h45]
    rw [hE] at hC
    refine hC.vc [] 60 ?_
    simp [Ent.av, e0_cells]
  | false =>
    rw [h45, if_neg (by simp)] at hE
    refine hC.vc [] 60 ?_
    simp
    refine hC.call [] (f50b tabs 61 t) (by simp) ?_
    have htl : (trimB 61 t).length ≤ t.length := trim_le 61 t
    refine hC.vc [] 60 ?_
    simp
    refine hC.call [] (f76 tabs (trimB 61 t) (by omega)) (by simp) ?_
    cases h61 : headIs 61 t with
    | false =>
      rw [h61, if_neg (by simp)] at hE
      rw [hE] at hC
      refine hC.vc [] 60 ?_
      simp [Ent.av, e0_cells, hb0]
    | true =>
      rw [htr61 h61]
      by_cases h0 : endB u = 0
      · rw [if_neg (fun h => h.2.1 h0)] at hE
        rw [h0]
        rw [hE] at hC
        refine hC.vc [] 60 ?_
        simp [Ent.av, e0_cells, hb0]
      · have hule := endGo_le u 0 false false 0
        change endB u ≤ 0 + u.length at hule
        cases u with
        | nil => exact absurd rfl h0
        | cons c m =>
          have h0I : ¬ (endB (c :: m) : Int) = 0 := by omega
          obtain ⟨z, hz⟩ : ∃ z, byteAt (bytesOf (c :: m)) 0 = z := ⟨_, rfl⟩
          have l34 := fst_byte (d := 34) z hz
          change z = 34 ↔ c = 34 at l34
          have hsz : 0 < (bytesOf (c :: m)).size := by rw [bytesOf_size]; simp
          by_cases h34 : z = 34
          · have hc := l34.1 h34
            have hh34 : headIs 34 (c :: m) = true := by simp [headIs, hc]
            rw [if_pos ⟨h61, h0, hh34⟩] at hE
            generalize endB (c :: m) = tn at hE h0 hule ⊢
            have h0I : ¬ (tn : Int) = 0 := by omega
            have hv : (bytesOf (c :: m)).extract 0 tn = bytesOf ((c :: m).take tn) := by rw [extract_td]; rfl
            have hw : (bytesOf (c :: m)).extract tn (c :: m).length = bytesOf ((c :: m).drop tn) := extract_drop _ _
            have htk : ((c :: m).take tn).length ≤ 9000000 := by rw [List.length_take]; omega
            have hdl : ((c :: m).drop tn).length ≤ 12000 := by rw [List.length_drop]; omega
            have htn : tn ≤ (c :: m).length := by omega
            have hsz2 : (bytesOf (c :: m)).size = (c :: m).length := rfl
            generalize (c :: m).drop tn = w at hE hw hdl
            generalize (c :: m).take tn = vv at hE hv htk
            generalize hml : (c :: m).length = ml at hw htn hsz2
            generalize bytesOf (c :: m) = bb at hv hw hz hsz hsz2 ⊢
            have hrb : restB (bytesOf (unquoteB vv)) w = if headIs 91 w = true then (if endB w = 0 then (e0, [], false) else (⟨true, bytesOf (unquoteB vv), (parseAllB (innerB w)).1⟩, w.drop (endB w), decide ((parseAllB (innerB w)).2 = 0) && decide (0 < (parseAllB (innerB w)).1.length)))
              else (⟨true, bytesOf (unquoteB vv), []⟩, w, true) := rfl
            rw [hrb] at hE
            refine hC.vc [] 60 ?_
            simp [h0, hz, h34, hsz, hsz2, htn, hv]
            refine ⟨by omega, ?_⟩
            refine hC.call [] (f77 tabs vv htk) (by simp) ?_
            refine hC.vc [] 60 ?_
            simp [hsz2, htn, hw]
            refine hC.call [] (f78 tabs (bytesOf w) (sgn 91)) (by simp) ?_
            rw [hasPre_byte, headIs_takes]
            cases h91 : headIs 91 w with
            | false =>
              rw [h91, if_neg (by simp)] at hE
              rw [hE] at hC
              refine hC.vc [] 60 ?_
              simp [Ent.av, Ent.cells]
            | true =>
              rw [h91, if_pos rfl] at hE
              refine hC.vc [] 60 ?_
              simp
              refine hC.call [] (f76 tabs w (by omega)) (by simp) ?_
              by_cases hw0 : endB w = 0
              · rw [if_pos hw0] at hE
                rw [hw0]
                rw [hE] at hC
                refine hC.vc [] 60 ?_
                simp [Ent.av, e0_cells, hb0]
              · rw [if_neg hw0] at hE
                obtain ⟨k1, k2⟩ := end_two (.inl rfl) h91 hw0
                have hin : innerB w = (w.take (endB w - 1)).drop 1 := rfl
                have hinl : (innerB w).length ≤ 12000 := by rw [hin, List.length_drop, List.length_take]; omega
                generalize endB w = en at hE hw0 k1 k2 hin ⊢
                have hwe := wr64 ((en : Int) - 1) (by omega)
                have hen : ((en : Int) - 1).toNat = en - 1 := by omega
                have hx1 : (bytesOf w).extract 1 (en - 1) = bytesOf (innerB w) := by rw [extract_td, hin]
                have hx2 : (bytesOf w).extract en w.length = bytesOf (w.drop en) := extract_drop _ _
                generalize innerB w = inn at hE hinl hx1
                generalize w.drop en = wd at hE hx2
                generalize hpa : parseAllB inn = pa at hE
                obtain ⟨pl, pe⟩ := pa
                simp only at hE
                have hfa := f79 inn (by omega)
                rw [hpa] at hfa
                simp only at hfa
                refine hC.vc [] 60 ?_
                simp [hw0, bytesOf_size, hwe, hen, hx1]
                refine ⟨by omega, ?_⟩
                refine hC.call [] hfa (by simp) ?_
                rw [hE] at hC
                refine hC.vc [] 60 ?_
                by_cases hpe : pe = 0
                · by_cases hpl : 0 < pl.length
                  · simp [bytesOf_size, k2, hx2, hpe, hpl, Ent.av, Ent.cells]
                  · simp [bytesOf_size, k2, hx2, hpe, hpl, Ent.av, Ent.cells]
                · simp [bytesOf_size, k2, hx2, hpe, Ent.av, Ent.cells]
          · have hc : ¬ c = 34 := fun e => h34 (l34.2 e)
            rw [if_neg (fun h => by have := h.2.2; simp [headIs, hc] at this)] at hE
            rw [hE] at hC
            refine hC.vc [] 60 ?_
            simp [h0, hz, h34, hsz, Ent.av, e0_cells, hb0]
end Go.Proofs.D
