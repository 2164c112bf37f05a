/-
  NODES: all of a text; a builder's bytes; where a text ends.
-/
import Derived.Test.YtonomogpephfkaaDoorK19
set_option linter.unusedVariables false
set_option linter.unusedSimpArgs false
set_option linter.unusedSimpArgs false
namespace Go.Proofs.D
open Go Go.Abs Go.RowKit
attribute [local simp] VC stepV stepTop stepReg stepOp stMove stPick stBin stUn stConv stBox stAlloc stLoad stStore stFieldAddr stField stExtract stNilCheck stMakeFunc stIndexAddr stIndex stLen
  stBuild placesOf fillA stBuildSlice sliceCells repL chunks allPV toPV drawOk drawOk.go mayMakeO mayMake1 disjoint pairOk Oper.apart Oper.looksAt Op.operands Call.operands Region.binds stAppend appBase appTail unName stSlice bndA
  LS.ev LS.get LS.blk LS.put LS.app LS.upd lkS lkH setS setH Nm.eqb guardOf nexts okPair dstOk AV.cellsOf takeAt putAt lkT sliceE fieldT intK isStrT isBoolT abin newOk LS.freshB LS.freshB.go LS.freshB.goH notIn AV.ments AV.ments.mentsL Blk.ments makes upsMents LS.start startL exitTo T T3 outs callSideO callSideD upsR backO freshAll argB onlyIO List.map List.append List.nil_append List.cons_append Nat.blt
  conv convS convH srcs srcOf blkOk leA leA.leL leB leP laid laidM isArg subH retP resAV resL res1 AV.frz AV.frz.frzL evL AV.ren AV.ren.renL Blk.ren renBs blksOf allSome nodupB onlyArgs blksMents callUps keyed inName inName.go backName callSide
theorem f79 (s : Bs) (hl : s.length ≤ 14000) : Fun Tryd.prog tabs 79 [vT s] [] (.tup [.pv (nodes (parseAllB s).1), vI (parseAllB s).2]) [] := by
  have g1 : (⟨#[120, 91]⟩ : ByteArray).size = 2 := rfl
  have g2 : (⟨#[93]⟩ : ByteArray).size = 1 := rfl
  have hs : (⟨#[120, 91]⟩ : ByteArray) ++ bytesOf s ++ ⟨#[93]⟩ = bytesOf (120 :: 91 :: (s ++ [93])) := bsExt (by simp [bytesOf, ByteArray.data_append])
  refine fun_of (T := T3) (n := 16) (rs := [.tmp 2, .tmp 3]) Tryd.func79 (by kernel_rfl) rfl rfl rfl tok3 mixed (by simp) fun C hC => ?_
  refine hC.vc [] 60 ?_
  simp [bytesOf_size, g1, g2, hs]
  refine ⟨by omega, by omega, ?_⟩
  refine hC.call [] (f98 (120 :: 91 :: (s ++ [93])) (by simp; omega)) (by simp [N.av, N.cells]) ?_
  refine hC.vc [] 60 ?_
  simp [N.av, N.cells, parseAllB]
set_option maxRecDepth 20000 in
theorem f97 (Gl : Granted) (ad : AV) (l : List UInt8) (c : UInt8) (z : Int) (hz : z = (c.toNat : Int)) (had : ad = nilPtr ∨ ad = ptr0) (hlen : l.length + 1 ≤ 140737488355328) :
    FunO Tryd.prog Gl 97 [ptr0, .pv (.val (.int .u8 z))] [some (bldB ad (.own (.arg 1))), some (bytesB l)] nilErr [some (bldB ptr0 (.own (.out 0))), none] [bytesB (l ++ [c])] := by
  refine funO_of (T := T3) (n := 17) (rs := [.tmp 4]) Tryd.func97 (by kernel_rfl) rfl rfl rfl tok3 mixed (by simp) fun C hC => ?_
  refine hC.vc [] 60 ?_
  simp
  refine hC.call [.arg 0, .arg 1] (f68 Gl ad l had) (by rcases had with rfl | rfl <;> simp) ?_
  have hbr : byteRow l ++ [[PV.val (.int .u8 z)]] = byteRow (l ++ [c]) := by rw [hz]; simp [byteRow]
  refine hC.vc [] 15 ?_
  simp
  refine ⟨by omega, ?_⟩
  exact go_to (M := ⟨[], [(.arg 0, some (bldB ptr0 (.own (.out 0)))), (.out 0, some (bytesB (l ++ [c])))]⟩) [(.out 0, .nm (.loc 14))] (hC.vc [] 60 (by simp)) (by simp [hz])
theorem f80 (Gl : Granted) (s p : ByteArray) : Fun Tryd.prog Gl 80 [vS s, vS p] [] (vS (cutPre s p)) [] := by
  refine fun_of (T := T3) (n := 13) (rs := [.tmp 4]) Tryd.func80 (by kernel_rfl) rfl rfl rfl tok3 mixed (by simp) fun C hC => ?_
  refine hC.vc [] 60 ?_
  simp
  refine hC.call [] (f96 Gl s p) (by simp) ?_
  refine hC.vc [] 60 ?_
  cases h : hasPre s p
  · simp [cutPre, h]
  · simp [cutPre, h, hasPre_le h]
theorem trim_takes (c : UInt8) (l : Bs) : (takesB c l).2 = trimB c l := by
  cases l with
  | nil => rfl
  | cons x l =>
    simp only [takesB, trimB, headIs, decide_eq_true_eq]
    split <;> rfl
theorem f52 (Gl : Granted) (c : UInt8) (l : Bs) : Fun Tryd.prog Gl 52 [vT l, vS (sgn c)] [] (vT (trimB c l)) [] := by
  refine fun_of (T := T3) (n := 8) (rs := [.tmp 4]) Tryd.func52 (by kernel_rfl) rfl rfl rfl tok3 mixed (by simp) fun C hC => ?_
  refine hC.vc [] 60 ?_
  simp
  refine hC.call [] (f80 Gl (bytesOf l) (sgn c)) (by simp) ?_
  rw [cutPre_byte, trim_takes]
  refine hC.vc [] 60 ?_
  simp
theorem f50b (Gl : Granted) (c : UInt8) (l : Bs) : Fun Tryd.prog Gl 50 [vT l, vS (sgn c)] [] (.tup [vT (trimB c l), vB (headIs c l)]) [] := by
  have h := f50 Gl (bytesOf l) (sgn c)
  rw [hasPre_byte, cutPre_byte, trim_takes, headIs_takes] at h
  exact h
set_option maxRecDepth 20000 in
set_option maxHeartbeats 4000000 in
theorem f77 (Gl : Granted) (s : Bs) (hl : s.length ≤ 9000000) : Fun Tryd.prog Gl 77 [vT s] [] (vT (unquoteB s)) [] := by
  refine fun_of (T := T3) (n := 23) (rs := [.tmp 2]) Tryd.func77 (by kernel_rfl) rfl rfl rfl tok3 mixed (by simp) fun C hC => ?_
  refine hC.vc [] 60 ?_
  simp
  refine go_loop (ι := {x : Nat × Bool × Bs // 1 ≤ x.1 ∧ x.1 ≤ s.length + 1 ∧ x.2.2.length ≤ x.1 ∧ unquoteB s = x.2.2 ++ unqGo (s.drop x.1)}) (fun x => ⟨[(0, vT s), (3, .ptr (.loc 3) 0), (4, vI x.1.1)], [(.loc 3, some (bldB (adOf (.loc 3) x.1.2.1) (.own (.can 0)))), (.can 0, some (bytesB x.1.2.2))]⟩)
    (fun x => s.length + 2 - x.1.1) ⟨(1, false, []), by simp [unquoteB]⟩ [(.can 0, .nil)] (by simp [adOf]) fun x ih => ?_
  obtain ⟨⟨i, ad, acc⟩, hi1, hi, hal, hn⟩ := x
  simp only at hi1 hi hal hn ih
  have hwl := wr64 ((s.length : Int) - 1) (by omega)
  have hw1 := wr64 ((i : Int) + 1) (by omega)
  have hw2 := wr64 ((i : Int) + 1 + 1) (by omega)
  by_cases hlt : i + 1 < s.length
  · have hIl : (i : Int) < (s.length : Int) - 1 := by omega
    have hz0 := byteAt_of (l := s) (i := i) (by omega)
    have hy0 := byteAt_of hlt
    have hd : s.drop i = s[i] :: s[i + 1] :: s.drop (i + 2) := by rw [List.drop_eq_getElem_cons (by omega), List.drop_eq_getElem_cons (i := i + 1) hlt]
    have hd1 : s.drop (i + 1) = s[i + 1] :: s.drop (i + 2) := List.drop_eq_getElem_cons hlt
    generalize s[i] = c at hz0 hd
    generalize s[i + 1] = d at hy0 hd hd1
    obtain ⟨z, hz⟩ : ∃ z, byteAt (bytesOf s) (i : Int) = z := ⟨_, rfl⟩
    rw [hz] at hz0
    obtain ⟨y, hy⟩ : ∃ y, byteAt (bytesOf s) ((i : Int) + 1) = y := ⟨_, rfl⟩
    have hy0' : y = (d.toNat : Int) := by rw [← hy]; exact hy0
    have l92 := u8_lit hz0 92
    change z = 92 ↔ c = 92 at l92
    have hin : i < s.length := by omega
    have hI1 : (i : Int) + 1 < s.length := by omega
    have hI0 : (0 : Int) ≤ (i : Int) + 1 := by omega
    rcases Bool.eq_false_or_eq_true ad with hA | hA
    all_goals
      by_cases h92 : z = 92
      · have hc := l92.1 h92
        have hr : unquoteB s = (acc ++ [d]) ++ unqGo (s.drop (i + 2)) := by rw [hn, hd, unqGo, if_pos hc]; simp
        refine hC.vc [] 60 ?_
        simp [bytesOf_size, hwl, hIl, hz, h92, hw1, hy, hI1, hI0, hin, hA, adOf]
        refine hC.callO [.loc 3, .can 0] [.can 1] (f97 Gl (adOf (.arg 0) ad) acc d y hy0' (adOf_or ad) (by omega)) (by simp [hA, adOf]) ?_
        refine hC.vc [] 60 ?_
        simp
        exact go_to [(.can 0, .nm (.can 1))] (ih ⟨(i + 2, true, acc ++ [d]), by dsimp only; omega, by dsimp only; omega, by simp; omega, hr⟩ (by simp; omega)) (by simp [hw2, adOf]; omega)
      · have hc : ¬ c = 92 := fun e => h92 (l92.2 e)
        have hr : unquoteB s = (acc ++ [c]) ++ unqGo (s.drop (i + 1)) := by rw [hn, hd, unqGo, if_neg hc, ← hd1]; simp
        refine hC.vc [] 60 ?_
        simp [bytesOf_size, hwl, hIl, hz, h92, hin, hA, adOf]
        refine hC.callO [.loc 3, .can 0] [.can 1] (f97 Gl (adOf (.arg 0) ad) acc c z hz0 (adOf_or ad) (by omega)) (by simp [hA, adOf]) ?_
        refine hC.vc [] 60 ?_
        simp
        exact go_to [(.can 0, .nm (.can 1))] (ih ⟨(i + 1, true, acc ++ [c]), by dsimp only; omega, by dsimp only; omega, by simp; omega, hr⟩ (by simp; omega)) (by simp [hw1, adOf])
  · have hIl : ¬ (i : Int) < (s.length : Int) - 1 := by omega
    have hr : unquoteB s = acc := by
      rw [hn]
      have hlen : (s.drop i).length ≤ 1 := by rw [List.length_drop]; omega
      match s.drop i, hlen with
      | [], _ => simp [unqGo]
      | [c], _ => simp [unqGo]
    rw [hr] at hC
    rcases Bool.eq_false_or_eq_true ad with hA | hA
    all_goals
      refine hC.vc [] 60 ?_
      simp [bytesOf_size, hwl, hIl, hA, adOf]
      refine hC.call [.loc 3, .can 0] (f40 Gl (adOf (.arg 0) ad) acc (adOf_or ad)) (by simp [hA, adOf]) ?_
      refine hC.vc [] 60 ?_
      simp
      rfl
end Go.Proofs.D
