/-
  ROWS OF NUMBERS THAT RISE, laid together; one step of the answer's table.
-/
import Derived.Test.YtciibpfhjfegnaaGreatDoorG3
import Derived.Test.YtciibpfhjfegnaaGreatDoorG12
set_option linter.unusedVariables false
set_option linter.unusedSimpArgs false
namespace Go.Proofs.D
open Go Go.Abs
attribute [local simp] VC VCS stepVS stepTopS firstId memN bigB unmark markT mkOff calmP keepT boundB boundC stepV stepTop stepReg stepOp stMove stPick stBin stUn stConv stBox stAlloc stLoad stStore stFieldAddr stField stExtract stNilCheck stMakeFunc stIndexAddr stIndex stLen
  stBuild placesOf fillA stBuildSlice sliceCells repL chunks allPV toPV drawOk drawOk.go mayMakeO mayMake1 disjoint pairS Oper.apart Oper.looksAt Op.operands Call.operands Region.binds stAppend appBase appTail unName stSlice bndA
  LS.ev LS.get LS.blk LS.put LS.app LS.upd lkS lkH setS setH Nm.eqb guardOf nexts okPair dstOk AV.cellsOf takeAt putAt lkT sliceE fieldT intK isStrT isBoolT abin newOk LS.freshB LS.freshB.go LS.freshB.goH notIn AV.ments AV.ments.mentsL Blk.ments makes upsMents LS.start startL exitTo T T5 outs callSideR callSideO callSideD upsR backO freshAll argB onlyIO List.map List.append List.nil_append List.cons_append Nat.blt
  conv convS convH srcs srcOf blkOk leA leA.leL Go.Abs.leB leP laid laidM laidG isArg subH retP resAV resL res1 AV.frz AV.frz.frzL evL AV.ren AV.ren.renL Blk.ren renBs blksOf allSome nodupB onlyArgs blksMents callUps keyed inName inName.go backName callSide
theorem putN_len : ∀ (n : Nat) (l k : List Nat), l.length + k.length ≤ n → (putN l k).length ≤ l.length + k.length
  | _, [], k, _ => by rw [putN]; simp
  | _, a :: l, [], _ => by rw [putN]; simp
  | 0, a :: l, b :: k, h => by simp at h
  | n + 1, a :: l, b :: k, h => by
    simp at h
    rw [putN]
    split
    · have := putN_len n l (b :: k) (by simp; omega)
      simp at this ⊢; omega
    · split
      · have := putN_len n (a :: l) k (by simp; omega)
        simp at this ⊢; omega
      · have := putN_len n l k (by omega)
        simp; omega
abbrev natsB (l : List Nat) : Blk := .row 3 1 (l.map fun z : Nat => [.val (.int .i64 (z : Int))])
set_option maxRecDepth 20000 in
set_option maxHeartbeats 2000000 in
theorem h106 (Gl : Granted) (l k : List Nat) (hs : l.length + k.length ≤ 1000000) : Fun Tryz.prog Gl 106 [.pv (nats l), .pv (nats k)] [] (.pv (nats (putN l k))) [] := by
  refine fun_of (T := T5) (n := 84) (rs := [.tmp 4]) Tryz.func106 (by kernel_rfl) rfl rfl rfl tok5 mixed (by simp) fun C hC => ?_
  refine hC.vc [] 60 ?_
  simp
  refine go_loop (ι := {x : Nat × Nat × List Nat // x.1 ≤ l.length ∧ x.2.1 ≤ k.length ∧ x.2.2.length ≤ x.1 + x.2.1 ∧ putN l k = x.2.2 ++ putN (l.drop x.1) (k.drop x.2.1)}) (fun x => ⟨[(0, .pv (nats l)), (1, .pv (nats k)), (5, .own (.can 0)), (6, vI x.1.1), (7, vI x.1.2.1)], [(.can 0, some (natsB x.1.2.2))]⟩)
    (fun x => (l.length - x.1.1) + (k.length - x.1.2.1)) ⟨(0, 0, []), by simp⟩ [(.can 0, .nil)] (by simp) fun x ih => ?_
  obtain ⟨⟨i, j, o⟩, hi, hj, ho, hn⟩ := x
  simp only at hi hj ho hn ih
  have hwi := wr64 ((i : Int) + 1) (by omega)
  have hwj := wr64 ((j : Int) + 1) (by omega)
  by_cases hli : i < l.length
  · have hliI : (i : Int) < l.length := by omega
    have hneI : ¬ (i : Int) = l.length := by omega
    have hneN : ¬ i = l.length := by omega
    by_cases hlj : j < k.length
    · have hljI : (j : Int) < k.length := by omega
      have hnjI : ¬ (j : Int) = k.length := by omega
      have hnjN : ¬ j = k.length := by omega
      rw [List.drop_eq_getElem_cons hli, List.drop_eq_getElem_cons hlj, putN] at hn
      obtain ⟨a, ha⟩ : ∃ a, l[i] = a := ⟨_, rfl⟩
      obtain ⟨b, hb⟩ : ∃ b, k[j] = b := ⟨_, rfl⟩
      rw [ha, hb] at hn
      by_cases h1 : a < b
      · have h1I : (a : Int) < b := by omega
        rw [if_pos h1, ← hb, ← List.drop_eq_getElem_cons hlj] at hn
        refine hC.go [] 90 ?_
        simp [hli, hliI, hneI, hneN, hlj, hljI, hnjI, hnjN, ha, hb, h1, h1I]
        refine hC.drawn (by kernel_rfl) (by simp) ?_
        refine hC.go [] 90 ?_
        simp [hli, hliI, hneI, hneN, hlj, hljI, hnjI, hnjN, ha, hb, h1, h1I]
        refine ⟨by omega, ?_⟩
        exact go_to [(.can 0, .nm (.loc 45))] (ih ⟨(i + 1, j, o ++ [a]), hli, hj, by simp; omega, by simpa using hn⟩ (by simp; omega)) (by simp [hwi])
      · have h1I : ¬ (a : Int) < b := by omega
        rw [if_neg h1] at hn
        by_cases h2 : b < a
        · have h2I : (b : Int) < a := by omega
          rw [if_pos h2, ← ha, ← List.drop_eq_getElem_cons hli] at hn
          refine hC.go [] 90 ?_
          simp [hli, hliI, hneI, hneN, hlj, hljI, hnjI, hnjN, ha, hb, h1, h1I, h2, h2I]
          refine hC.drawn (by kernel_rfl) (by simp) ?_
          refine hC.go [] 90 ?_
          simp [hli, hliI, hneI, hneN, hlj, hljI, hnjI, hnjN, ha, hb, h1, h1I, h2, h2I]
          refine hC.drawn (by kernel_rfl) (by simp) ?_
          refine hC.go [] 90 ?_
          simp [hli, hliI, hneI, hneN, hlj, hljI, hnjI, hnjN, ha, hb, h1, h1I, h2, h2I]
          refine ⟨by omega, ?_⟩
          exact go_to [(.can 0, .nm (.loc 69))] (ih ⟨(i, j + 1, o ++ [b]), hi, hlj, by simp; omega, by simpa using hn⟩ (by simp; omega)) (by simp [hwj])
        · have h2I : ¬ (b : Int) < a := by omega
          rw [if_neg h2] at hn
          refine hC.go [] 90 ?_
          simp [hli, hliI, hneI, hneN, hlj, hljI, hnjI, hnjN, ha, hb, h1, h1I, h2, h2I]
          refine hC.drawn (by kernel_rfl) (by simp) ?_
          refine hC.go [] 90 ?_
          simp [hli, hliI, hneI, hneN, hlj, hljI, hnjI, hnjN, ha, hb, h1, h1I, h2, h2I]
          refine hC.drawn (by kernel_rfl) (by simp) ?_
          refine hC.go [] 90 ?_
          simp [hli, hliI, hneI, hneN, hlj, hljI, hnjI, hnjN, ha, hb, h1, h1I, h2, h2I]
          refine ⟨by omega, ?_⟩
          exact go_to [(.can 0, .nm (.loc 78))] (ih ⟨(i + 1, j + 1, o ++ [a]), hli, hlj, by simp; omega, by simpa using hn⟩ (by simp; omega)) (by simp [hwi, hwj])
    · have hljI : ¬ (j : Int) < k.length := by omega
      have hjI : (j : Int) = k.length := by omega
      have hjN : j = k.length := by omega
      rw [List.drop_eq_getElem_cons hli, List.drop_eq_nil_of_le (by omega : k.length ≤ j), putN] at hn
      refine hC.go [] 90 ?_
      simp [hli, hliI, hneI, hneN, hlj, hljI, hjI]
      refine hC.drawn (by kernel_rfl) (by simp) ?_
      refine hC.go [] 90 ?_
      simp [hli, hliI, hneI, hneN, hlj, hljI, hjI]
      refine ⟨by omega, ?_⟩
      exact go_to [(.can 0, .nm (.loc 45))] (ih ⟨(i + 1, j, o ++ [l[i]]), hli, hj, by simp; omega, by
        rw [hn, List.drop_eq_nil_of_le (by omega : k.length ≤ j)]
        cases l.drop (i + 1) <;> simp [putN]⟩ (by simp; omega)) (by simp [hwi, hjI])
  · have hliI : ¬ (i : Int) < l.length := by omega
    have hiI : (i : Int) = l.length := by omega
    have hiN : i = l.length := by omega
    rw [List.drop_eq_nil_of_le (by omega : l.length ≤ i), putN] at hn
    by_cases hlj : j < k.length
    · have hljI : (j : Int) < k.length := by omega
      have hnjI : ¬ (j : Int) = k.length := by omega
      have hnjN : ¬ j = k.length := by omega
      rw [List.drop_eq_getElem_cons hlj] at hn
      refine hC.go [] 90 ?_
      simp [hli, hliI, hiI, hlj, hljI, hnjI, hnjN]
      refine hC.drawn (by kernel_rfl) (by simp) ?_
      refine hC.go [] 90 ?_
      simp [hli, hliI, hiI, hlj, hljI, hnjI, hnjN]
      refine hC.drawn (by kernel_rfl) (by simp) ?_
      refine hC.go [] 90 ?_
      simp [hli, hliI, hiI, hlj, hljI, hnjI, hnjN]
      refine ⟨by omega, ?_⟩
      exact go_to [(.can 0, .nm (.loc 69))] (ih ⟨(i, j + 1, o ++ [k[j]]), hi, hlj, by simp; omega, by
        rw [hn, List.drop_eq_nil_of_le (by omega : l.length ≤ i), putN]; simp⟩ (by simp; omega)) (by simp [hwj, hiI])
    · have hljI : ¬ (j : Int) < k.length := by omega
      rw [List.drop_eq_nil_of_le (by omega), List.append_nil] at hn
      refine hC.go [] 90 ?_
      simp [hli, hliI, hlj, hljI, hn]
set_option maxRecDepth 20000 in
set_option maxHeartbeats 2000000 in
theorem h60 (Gl : Granted) (d : Au) (hr : ∀ r ∈ d.next, r.length = d.names.length) (s : Int) (a : ByteArray) : Fun Tryz.prog Gl 60 [d.av, vI s, vS a] [] (vI (d.stp s a)) [] := by
  refine fun_of (T := T5) (n := 41) (rs := [.tmp 6]) Tryz.func60 (by kernel_rfl) rfl rfl rfl tok5 mixed (by simp) fun C hC => ?_
  refine hC.go [] 90 ?_
  simp [Au.av, Au.cells]
  refine go_lenB (.loc 3) 49 d.cells 0 1 (d.names.map fun s => [.val (.string s)]) (by simp [Au.cells]) (by simp [Au.cells]) fun hlen => ?_
  rw [List.length_map] at hlen
  refine go_loop (ι := {i : Nat // i ≤ d.names.length ∧ (0 ≤ s → s < d.next.length → ∀ j (hj : j < d.names.length), j < i → d.names[j] ≠ a)}) (fun x => ⟨[(1, vI s), (2, vS a), (3, .ptr (.loc 3) 0), (7, vI x.1)], [(.loc 3, some (.box 49 d.cells))]⟩) (fun x => d.names.length - x.1) ⟨0, by simp⟩ [] (by simp [Au.cells]) fun x ih => ?_
  obtain ⟨i, hi, hn⟩ := x
  simp only at hi hn ih
  by_cases hlt : i < d.names.length
  · have hw := wr64 ((i : Int) + 1) (by omega)
    have ih' := fun (h : 0 ≤ s → s < d.next.length → d.names[i] ≠ a) => ih ⟨i + 1, hlt, fun h0 h1 j hj hji => by
      by_cases e : j = i
      · subst e; exact h h0 h1
      · exact hn h0 h1 j hj (by omega)⟩ (by simp; omega)
    by_cases he : d.names[i] = a
    · by_cases h0 : 0 ≤ s
      · obtain ⟨n, hs⟩ : ∃ n : Nat, s = n := ⟨s.toNat, by omega⟩
        subst hs
        by_cases h1 : n < d.next.length
        · have h1I : (n : Int) < d.next.length := by omega
          have hix := ixK_of hlt (hn h0 h1I) he
          have hrl := hr _ (List.getElem_mem h1)
          have hil : i < d.next[n].length := by omega
          have hst : d.stp n a = d.next[n][i] := by
            have : ¬ (n : Int) < 0 := by omega
            simp [Au.stp, this, hix, h1, List.getD, List.getElem?_eq_getElem hil]
          refine hC.go [] 90 ?_
          simp [hlt, he, h0, h1, h1I, Au.cells, hil, hst]
        · have h1I : ¬ (n : Int) < d.next.length := by omega
          refine hC.go [] 90 ?_
          simp [hlt, he, h0, h1, h1I, Au.cells]
          exact go_to [] (ih' fun _ g => absurd g h1I) (by simp [hw, Au.cells])
      · refine hC.go [] 90 ?_
        simp [hlt, he, h0, Au.cells]
        exact go_to [] (ih' fun g => absurd g h0) (by simp [hw, Au.cells])
    · refine hC.go [] 90 ?_
      simp [hlt, he, Au.cells]
      exact go_to [] (ih' fun _ _ => he) (by simp [hw, Au.cells])
  · have hst : d.stp s a = -1 := by
      by_cases h0 : 0 ≤ s
      · by_cases h1 : s < d.next.length
        · refine stp_not d s (fun hm => ?_) hr
          obtain ⟨j, hj, e⟩ := List.getElem_of_mem hm
          exact hn h0 h1 j hj (by omega) e
        · have : ¬ s < 0 := by omega
          simp [Au.stp, this, List.getElem?_eq_none (show d.next.length ≤ s.toNat by omega)]
      · simp [Au.stp, show s < 0 by omega]
    refine hC.go [] 90 ?_
    simp [hlt, Au.cells, hst]
end Go.Proofs.D
