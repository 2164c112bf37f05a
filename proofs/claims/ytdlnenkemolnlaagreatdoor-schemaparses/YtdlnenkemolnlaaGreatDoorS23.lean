/-
  THE ANSWER TO CHAPTER 8: how a schema is written.
-/
import Derived.Test.YtdlnenkemolnlaaGreatDoorS16r
import Derived.Test.YtdlnenkemolnlaaGreatDoorR7
import Derived.Test.YtdlnenkemolnlaaGreatDoorD36
import Derived.Test.YtdlnenkemolnlaaGreatDoorR13
import Derived.Test.YtdlnenkemolnlaaGreatDoorLQ
import Derived.Test.YtdlnenkemolnlaaGreatDoorB6
import Derived.Test.YtdlnenkemolnlaaGreatDoorL0
set_option linter.unusedVariables false
set_option linter.unusedSimpArgs false
namespace Go.Proofs.D
open Go Go.Abs Go.RowKit
attribute [local simp] VC VCS stepVS stepTopS firstId memN bigB unmark markT mkOff calmP keepT boundB stepV stepTop stepReg stepOp stMove stPick stBin stUn stConv stBox stAlloc stLoad stStore stFieldAddr stField stExtract stNilCheck stMakeFunc stIndexAddr stIndex stLen
  stBuild placesOf fillA stBuildSlice sliceCells repL chunks allPV toPV drawOk drawOk.go mayMakeO mayMake1 disjoint pairOk Oper.apart Oper.looksAt Op.operands Call.operands Region.binds stAppend appBase appTail unName stSlice bndA
  LS.ev LS.get LS.blk LS.put LS.app LS.upd lkS lkH setS setH Nm.eqb guardOf nexts okPair dstOk AV.cellsOf takeAt putAt lkT sliceE fieldT intK isStrT isBoolT abin newOk LS.freshB LS.freshB.go LS.freshB.goH notIn AV.ments AV.ments.mentsL Blk.ments makes upsMents LS.start startL exitTo T T3 T4 outs callSideR callSideO callSideD upsR backO freshAll argB onlyIO List.map List.append List.nil_append List.cons_append Nat.blt
  conv convS convH srcs srcOf blkOk leA leA.leL Go.Abs.leB leP laid laidM laidG isArg subH retP resAV resL res1 AV.frz AV.frz.frzL evL AV.ren AV.ren.renL Blk.ren renBs blksOf allSome nodupB onlyArgs blksMents callUps keyed inName inName.go backName callSide
set_option maxRecDepth 20000 in
set_option maxHeartbeats 8000000 in
theorem g20 (Gl : Granted) (s : Sc) (hf : s.fit) (hk1 : s.kinds.length ≤ 1000000) (hm1 : s.marks.length ≤ 1000000) (hw : s.ok = true → s.bytes.length ≤ 1000000000) : Fun Tryz.prog Gl 20 [s.av] [] (.tup [vS s.print.1, vI s.print.2]) [] := by
  have k0 : (⟨#[]⟩ : ByteArray) = bs [] := rfl
  have k1 : (⟨#[110, 111, 100, 101, 32]⟩ : ByteArray) = bs nodeS := rfl
  have k2 : (⟨#[124]⟩ : ByteArray) = bs [124] := rfl
  have k3 : (⟨#[42]⟩ : ByteArray) = bs [42] := rfl
  have k4 : (⟨#[32]⟩ : ByteArray) = bs [32] := rfl
  have k5 : (⟨#[61]⟩ : ByteArray) = bs [61] := rfl
  have k6 : (⟨#[58, 32]⟩ : ByteArray) = bs [58, 32] := rfl
  have k7 : (⟨#[10]⟩ : ByteArray) = bs [10] := rfl
  have k8 : (⟨#[109, 97, 114, 107, 32]⟩ : ByteArray) = bs markS := rfl
  have hns : nodeS.length = 5 := rfl
  have hms : markS.length = 5 := rfl
  refine fun_of (T := T4) (n := 108) (rs := [.tmp 2, .tmp 3]) Tryz.func20 (by kernel_rfl) rfl rfl rfl tok4 mixed (by simp) fun C hC => ?_
  refine hC.go [] 60 ?_
  simp [Sc.av, Sc.cells]
  refine hC.call [] (g24 Gl s hf hk1 hm1) (by simp [Sc.av, Sc.cells]) ?_
  cases hok : s.ok with
  | false =>
    have hp : s.print = (⟨#[]⟩, 2) := by rw [Sc.print, hok]; rfl
    rw [hp] at hC
    refine hC.go [] 60 ?_
    simp
  | true =>
    have hp : s.print = (bs s.bytes, 0) := by rw [Sc.print, hok]; rfl
    rw [hp] at hC
    have hlenB : (s.kinds.flatMap lineK).length + (s.marks.flatMap lineM).length ≤ 1000000000 := by
      rw [← List.length_append]; exact hw hok
    refine hC.go [] 60 ?_
    simp
    refine go_loop (ι := {i : Nat // i ≤ s.kinds.length}) (fun x => ⟨[(1, .ptr (.loc 1) 0), (4, vS (bs ((s.kinds.take x.1).flatMap lineK))), (5, vI x.1)], [(.loc 1, some (.box 48 s.cells))]⟩)
      (fun x => s.kinds.length - x.1) ⟨0, by simp⟩ [] (by simp [Sc.cells, k0]) fun x ih => ?_
    obtain ⟨i, hi⟩ := x
    simp only at hi ih
    by_cases hlt : i < s.kinds.length
    · have hw1 := wr64 ((i : Int) + 1) (by omega)
      obtain ⟨k, hk⟩ : ∃ k, s.kinds[i] = k := ⟨_, rfl⟩
      have hkm : k ∈ s.kinds := by rw [← hk]; simp
      have hkf := hf.1 k hkm
      obtain ⟨f1, f2, f3, f4, f5⟩ := hkf
      have hkok := Sc.ok_kind hok hkm
      have hle := flat_le lineK hlt
      have htk := flat_take lineK hlt
      rw [hk] at hle htk
      have hlk : (lineK k).length = (headB k).length + ((k.attrs.flatMap declB).length + (k.content.bytes.length + 3)) := by
        simp only [lineK, List.length_append, List.length_cons, List.length_nil]
      obtain ⟨K, hK⟩ : ∃ K, k.name = bs K := ⟨_, bs_of _⟩
      have hKl : k.name.data.toList = K := by rw [hK]; exact bs_list K
      have hhd : nodeS ++ K = headB k := by rw [headB, hKl]
      have hhl : nodeS.length + K.length = (headB k).length := by rw [← hhd, List.length_append]
      generalize hP : (s.kinds.take i).flatMap lineK = P at hle htk
      refine hC.go [] 60 ?_
      simp [hlt, Sc.cells, Kd.pv_eq, E.pv_eq, hk, hP, hK, k1, bs_app, bsl]
      repeat (refine ⟨by omega, ?_⟩)
      rw [hhd]
      refine go_loop (ι := {j : Nat // j ≤ k.attrs.length}) (fun x => ⟨[(1, .ptr (.loc 1) 0), (4, vS (bs (P ++ headB k ++ (k.attrs.take x.1).flatMap declB))), (5, vI i), (6, .ptr (.loc 6) 0), (7, vI x.1)],
          [(.loc 1, some (.box 48 s.cells)), (.loc 6, some (.box 123 k.cells))]⟩)
        (fun x => k.attrs.length - x.1) ⟨0, by simp⟩ [] (by simp [Sc.cells, Kd.cells, E.cells, hK]) fun x ih2 => ?_
      obtain ⟨j, hj⟩ := x
      simp only at hj ih2
      by_cases hlj : j < k.attrs.length
      · have hw2 := wr64 ((j : Int) + 1) (by omega)
        obtain ⟨d, hd⟩ : ∃ d, k.attrs[j] = d := ⟨_, rfl⟩
        have hdm : d ∈ k.attrs := by rw [← hd]; simp
        have hdl := Dc.ok_len (Kd.ok_attr hkok hdm)
        have hle2 := flat_le declB hlj
        have htk2 := flat_take declB hlj
        rw [hd] at hle2 htk2
        generalize (k.attrs.take j).flatMap declB = Q at hle2 htk2 ⊢
        obtain ⟨D, hD⟩ : ∃ D, d.name = bs D := ⟨_, bs_of _⟩
        have hDl : d.name.data.toList = D := by rw [hD]; exact bs_list D
        have hld : (declB d).length = D.length + 2 + (valsB d.vals).length := by
          simp [declB, hDl]; omega
        have hjl : (joinV d.vals).length ≤ (valsB d.vals).length := by
          unfold valsB
          split
          · rename_i h; rw [h]; simp
          · exact Nat.le_refl _
        refine hC.go [] 60 ?_
        simp [hlj, hd, Sc.cells, Kd.cells, E.cells]
        refine go_loop (ι := {n : Nat // n ≤ d.vals.length}) (fun x => ⟨[(1, .ptr (.loc 1) 0), (4, vS (bs (P ++ headB k ++ Q))), (5, vI i), (6, .ptr (.loc 6) 0), (7, vI j), (8, vS (bs (sepBy 124 ((d.vals.map (·.data.toList)).take x.1)))), (9, vI x.1)],
            [(.loc 1, some (.box 48 s.cells)), (.loc 6, some (.box 123 k.cells))]⟩)
          (fun x => d.vals.length - x.1) ⟨0, by simp⟩ [] (by simp [Sc.cells, Kd.cells, E.cells, k0, sepBy]) fun x ih3 => ?_
        obtain ⟨n, hn⟩ := x
        simp only at hn ih3
        have hst : (sepBy 124 ((d.vals.map (·.data.toList)).take n)).length ≤ (joinV d.vals).length := sepBy_take 124 _ n
        by_cases hln : n < d.vals.length
        · have hw3 := wr64 ((n : Int) + 1) (by omega)
          obtain ⟨M, hM⟩ : ∃ M, d.vals[n] = bs M := ⟨_, bs_of _⟩
          have htk3 : (d.vals.map (·.data.toList)).take (n + 1) = (d.vals.map (·.data.toList)).take n ++ [M] := by rw [take_row _ hln, hM, bs_list]
          have hst2 : (sepBy 124 ((d.vals.map (·.data.toList)).take (n + 1))).length ≤ (joinV d.vals).length := sepBy_take 124 _ (n + 1)
          by_cases h0 : 0 < n
          · have hne : ¬ (d.vals.map (·.data.toList)).take n = [] := by
              intro e
              have := congrArg List.length e
              rw [List.length_take, List.length_map, List.length_nil] at this
              omega
            have hfin : sepBy 124 ((d.vals.map (·.data.toList)).take (n + 1)) = sepBy 124 ((d.vals.map (·.data.toList)).take n) ++ 124 :: M := by rw [htk3, sepBy_snoc, if_neg hne]
            have hfl := congrArg List.length hfin
            rw [List.length_append, List.length_cons] at hfl
            generalize sepBy 124 ((d.vals.map (·.data.toList)).take n) = V at hfin hst hfl ⊢
            refine hC.go [] 60 ?_
            simp [hln, h0, hd, hlj, Kd.cells, E.cells, k2, bs_app, bsl, hM]
            repeat (refine ⟨by omega, ?_⟩)
            exact go_to [] (ih3 ⟨n + 1, hln⟩ (by simp; omega)) (by simp [hw3, Sc.cells, Kd.cells, E.cells, hfin])
          · have e0 : sepBy 124 ((d.vals.map (·.data.toList)).take n) = [] := by rw [show n = 0 by omega]; rfl
            have hfin : sepBy 124 ((d.vals.map (·.data.toList)).take (n + 1)) = M := by rw [htk3, sepBy_snoc, if_pos (by rw [show n = 0 by omega]; rfl)]
            rw [hfin] at hst2
            rw [e0]
            refine hC.go [] 60 ?_
            simp [hln, h0, hd, hlj, Kd.cells, E.cells, bs_app, bsl, hM]
            repeat (refine ⟨by omega, ?_⟩)
            exact go_to [] (ih3 ⟨n + 1, hln⟩ (by simp; omega)) (by simp [hw3, Sc.cells, Kd.cells, E.cells, hfin])
        · have htn : (d.vals.map (·.data.toList)).take n = d.vals.map (·.data.toList) := List.take_of_length_le (by simp; omega)
          have hjv : sepBy 124 (d.vals.map (·.data.toList)) = joinV d.vals := rfl
          rw [htn, hjv]
          by_cases he : joinV d.vals = []
          · have hv : valsB d.vals = [42] := by rw [valsB, if_pos he]
            have hdb : declB d = 32 :: (D ++ 61 :: [42]) := by rw [declB, hDl, hv]; rfl
            have hb0 : bs (joinV d.vals) = bs [] := by rw [he]
            rw [hb0]
            have he0 : (bs ([] : Bs) = ⟨#[]⟩) = True := eq_true rfl
            refine hC.go [] 60 ?_
            simp [hln, hd, hlj, Kd.cells, E.cells, he0, k3, k4, k5, hD, bs_app, bsl]
            repeat (refine ⟨by omega, ?_⟩)
            exact go_to [] (ih2 ⟨j + 1, hlj⟩ (by simp; omega)) (by simp [hw2, Sc.cells, Kd.cells, E.cells, htk2, hdb, List.append_assoc])
          · have hv : valsB d.vals = joinV d.vals := by rw [valsB, if_neg he]
            have hdb : declB d = 32 :: (D ++ 61 :: joinV d.vals) := by rw [declB, hDl, hv]; rfl
            have he0 : ¬ bs (joinV d.vals) = ⟨#[]⟩ := fun h => he (by rw [← bs_list (joinV d.vals), h])
            generalize joinV d.vals = V at hdb he0 hjl ⊢
            refine hC.go [] 60 ?_
            simp [hln, hd, hlj, Kd.cells, E.cells, he0, k4, k5, hD, bs_app, bsl]
            repeat (refine ⟨by omega, ?_⟩)
            exact go_to [] (ih2 ⟨j + 1, hlj⟩ (by simp; omega)) (by simp [hw2, Sc.cells, Kd.cells, E.cells, htk2, hdb, List.append_assoc])
      · have htj : k.attrs.take j = k.attrs := List.take_of_length_le (by omega)
        have hcb : k.content.print.1 = bs k.content.bytes := bs_of _
        have htk' : (s.kinds.take (i + 1)).flatMap lineK = P ++ (headB k ++ (k.attrs.flatMap declB ++ (58 :: 32 :: k.content.bytes ++ [10]))) := by rw [htk]; rfl
        have hlj' : ¬ (j : Int) < k.attrs.length := by omega
        rw [htj]
        generalize k.attrs.flatMap declB = Q at hlk htk' ⊢
        refine hC.go [] 60 ?_
        simp [hlj, Sc.cells, Kd.cells, E.cells]
        refine hC.call [] (f30 Gl k.content f2 (by omega)) (by simp [E.av, E.cells]) ?_
        rw [hcb]
        refine hC.go [] 60 ?_
        simp [k6, k7, bs_app, bsl]
        repeat (refine ⟨by omega, ?_⟩)
        exact go_to [] (ih ⟨i + 1, hlt⟩ (by simp; omega)) (by simp [hw1, Sc.cells, htk', List.append_assoc])
    · have hti : s.kinds.take i = s.kinds := List.take_of_length_le (by omega)
      rw [hti]
      have hsb : s.bytes = s.kinds.flatMap lineK ++ s.marks.flatMap lineM := rfl
      generalize s.kinds.flatMap lineK = K at hlenB hsb ⊢
      have hlt' : ¬ (i : Int) < s.kinds.length := by omega
      refine hC.go [] 60 ?_
      simp [hlt, Sc.cells]
      refine go_loop (ι := {j : Nat // j ≤ s.marks.length}) (fun x => ⟨[(1, .ptr (.loc 1) 0), (4, vS (bs (K ++ (s.marks.take x.1).flatMap lineM))), (12, vI x.1)], [(.loc 1, some (.box 48 s.cells))]⟩)
        (fun x => s.marks.length - x.1) ⟨0, by simp⟩ [] (by simp [Sc.cells]) fun x ih2 => ?_
      obtain ⟨j, hj⟩ := x
      simp only at hj ih2
      by_cases hlj : j < s.marks.length
      · have hw2 := wr64 ((j : Int) + 1) (by omega)
        obtain ⟨M, hM⟩ : ∃ M, s.marks[j] = bs M := ⟨_, bs_of _⟩
        have hle2 := flat_le lineM hlj
        have htk2 := flat_take lineM hlj
        have hlm : lineM s.marks[j] = markS ++ M ++ [10] := by rw [lineM, hM, bs_list]
        rw [hlm] at hle2 htk2
        simp only [List.length_append, List.length_cons, List.length_nil] at hle2
        generalize (s.marks.take j).flatMap lineM = Q at hle2 htk2 ⊢
        refine hC.go [] 60 ?_
        simp [hlj, Sc.cells, hM, k7, k8, bs_app, bsl]
        repeat (refine ⟨by omega, ?_⟩)
        exact go_to [] (ih2 ⟨j + 1, hlj⟩ (by simp; omega)) (by simp [hw2, Sc.cells, htk2, List.append_assoc])
      · have htj : s.marks.take j = s.marks := List.take_of_length_le (by omega)
        have hlj' : ¬ (j : Int) < s.marks.length := by omega
        rw [htj, ← hsb]
        refine hC.go [] 60 ?_
        simp [hlj, Sc.cells]
end Go.Proofs.D
/-
  THE ANSWER TO CHAPTER 8: the expression of a text; a text at each of a sign; where one stands.
-/
set_option linter.unusedVariables false
set_option linter.unusedSimpArgs false
namespace Go.Proofs.D
open Go Go.Abs Go.RowKit
attribute [local simp] VC VCS stepVS stepTopS firstId memN bigB unmark markT mkOff calmP keepT boundB stepV stepTop stepReg stepOp stMove stPick stBin stUn stConv stBox stAlloc stLoad stStore stFieldAddr stField stExtract stNilCheck stMakeFunc stIndexAddr stIndex stLen
  stBuild placesOf fillA stBuildSlice sliceCells repL chunks allPV toPV drawOk drawOk.go mayMakeO mayMake1 disjoint pairOk Oper.apart Oper.looksAt Op.operands Call.operands Region.binds stAppend appBase appTail unName stSlice bndA
  LS.ev LS.get LS.blk LS.put LS.app LS.upd lkS lkH setS setH Nm.eqb guardOf nexts okPair dstOk AV.cellsOf takeAt putAt lkT sliceE fieldT intK isStrT isBoolT abin newOk LS.freshB LS.freshB.go LS.freshB.goH notIn AV.ments AV.ments.mentsL Blk.ments makes upsMents LS.start startL exitTo T T3 T4 outs callSideR callSideO callSideD upsR backO freshAll argB onlyIO List.map List.append List.nil_append List.cons_append Nat.blt
  conv convS convH srcs srcOf blkOk leA leA.leL Go.Abs.leB leP laid laidM laidG isArg subH retP resAV resL res1 AV.frz AV.frz.frzL evL AV.ren AV.ren.renL Blk.ren renBs blksOf allSome nodupB onlyArgs blksMents callUps keyed inName inName.go backName callSide
theorem right_text {e : E} (hr : e.right = true) (hc : e.cnt ≤ 1000000000) : (e.text false).size ≤ 384 := by
  have hok : e.ok = true := by simp [E.right] at hr; exact hr.2
  have h24 : e.cnt ≤ 24 := by
    simp [E.right] at hr
    have := many_cnt e (by omega)
    omega
  have := text_size e false hok
  omega
theorem parse_long (s : ByteArray) (h : 384 < s.size) (hs : s.size ≤ 1000000000) : parse s = (E.none, 2) := by
  rcases parse_sound s with h1 | ⟨_, h2, h3⟩
  · exact h1
  · have := right_text h2 (by have := (parse_small s hs).2; omega)
    rw [h3] at this
    omega
set_option maxRecDepth 20000 in
theorem g114 (Gl : Granted) (s : ByteArray) (hs : s.size ≤ 1000000) : Fun Tryz.prog Gl 114 [vS s] [] (.tup [(parse s).1.av, vI (parse s).2]) [] := by
  by_cases h9 : s.size ≤ 900
  · have := f14 Gl s h9
    rw [parse_rparse s h9] at this
    exact this
  · have hp := parse_long s (by omega) (by omega)
    have hz : E.none.av = .agg [.pv (.val (.int .u8 0)), vS ⟨#[]⟩, .pv (.ro 3 [])] := rfl
    rw [hp]
    simp only [hz]
    refine fun_of (T := T4) (n := 27) (rs := [.cell 2 120, .tmp 3]) Tryz.func114 (by kernel_rfl) rfl rfl rfl tok4 mixed (by simp) fun C hC => ?_
    by_cases h10 : 1000 < (s.size : Int)
    · refine hC.go [] 60 ?_
      simp [h10]
    · have hl : s.data.toList.length = s.size := by simp
      have hm := rdE_made 100 s.data.toList (by omega)
      have hf := f29 Gl 100 s.data.toList (by omega) (by omega)
      rw [B_data] at hf
      generalize rdE 100 s.data.toList = e at hm hf
      have hne : e.right = true → ¬ e.text false = s := fun hr he => by
        have := right_text hr (by omega)
        rw [he] at this
        omega
      refine hC.go [] 60 ?_
      simp [h10]
      refine hC.call [] hf (by simp [E.av, E.cells]) ?_
      refine hC.go [] 60 ?_
      simp [E.av, E.cells]
      refine hC.call [] (f30 Gl e hm.1 (by omega)) (by simp [E.av, E.cells]) ?_
      refine hC.go [] 60 ?_
      cases hr : e.right with
      | false => simp [E.print, hr]
      | true =>
        have := hne hr
        simp [E.print, hr, this]
/-- A text at each of a sign. -/
theorem splitC_step (c : UInt8) (p l : Bs) (h : c ∉ p) : ∀ x : UInt8, ¬ x = c → c ∉ p ++ [x] := fun x hx hm => by
  rcases List.mem_append.1 hm with hm | hm
  · exact h hm
  · simp at hm; exact hx hm.symm
set_option maxRecDepth 20000 in
set_option maxHeartbeats 4000000 in
theorem g66 (Gl : Granted) (S : Bs) (c : UInt8) (z : Int) (hz : z = (c.toNat : Int)) (hS : S.length ≤ 1000000) : Fun Tryz.prog Gl 66 [vS (bs S), .pv (.val (.int .u8 z))] [] (.pv (strs ((splitC c S).map bs))) [] := by
  refine fun_of (T := T4) (n := 34) (rs := [.tmp 4]) Tryz.func66 (by kernel_rfl) rfl rfl rfl tok4 mixed (by simp) fun C hC => ?_
  refine hC.go [] 60 ?_
  simp
  refine go_loop (ι := {x : List Bs × Nat × Nat // x.2.1 ≤ x.2.2 ∧ x.2.2 ≤ S.length ∧ x.1.length ≤ x.2.2 ∧ ∃ p : Bs, S.drop x.2.1 = p ++ S.drop x.2.2 ∧ c ∉ p ∧ p.length = x.2.2 - x.2.1 ∧ splitC c S = x.1 ++ splitC c (S.drop x.2.1)})
    (fun x => ⟨[(0, vS (bs S)), (1, .pv (.val (.int .u8 z))), (5, .own (.can 0)), (6, vI x.1.2.1), (7, vI x.1.2.2)], [(.can 0, some (.row 9 1 (x.1.1.map fun s => [.val (.string (bs s))])))]⟩)
    (fun x => S.length - x.1.2.2) ⟨([], 0, 0), by simp, by simp, by simp, [], by simp⟩ [(.can 0, .nil)] (by simp) fun x ih => ?_
  obtain ⟨⟨out, f, i⟩, hfi, hi, hol, p, hp, hcp, hpl, hn⟩ := x
  simp only at hfi hi hol hp hcp hpl hn ih
  have hext : (bs S).extract f i = bs p := bsExt (by
    have h1 : (S.drop f).take (i - f) = p := by rw [hp, ← hpl, List.take_left]
    simp only [bs, ByteArray.data_extract]
    simp only [Array.toList_extract, List.extract_eq_take_drop]
    exact h1)
  rcases drop_or S i with hd | ⟨y, t, hd⟩
  · have hge := drop_nil hd
    have hlt : ¬ i < S.length := by omega
    have hie : i = S.length := by omega
    rw [hd, List.append_nil] at hp
    rw [hp, splitC_one c p hcp] at hn
    have hmap : strs ((splitC c S).map bs) = .ro 1 ((out.map fun s => [PV.val (.string (bs s))]) ++ [[.val (.string (bs p))]]) := by
      rw [hn]; simp [strs]
    rw [hmap] at hC
    rw [hie] at hext
    refine hC.go [] 60 ?_
    simp [bsl, hlt, hext]
    omega
  · obtain ⟨h1, h2, h3, _⟩ := drop_at hd
    have hw := wr64 ((i : Int) + 1) (by omega)
    by_cases hy : y = c
    · subst hy
      have hb : byteAt (bs S) (i : Int) = z := by rw [h2, hz]
      rw [hd] at hp
      have hn2 : splitC y S = (out ++ [p]) ++ splitC y (S.drop (i + 1)) := by
        rw [hn, hp, splitC_app y p t hcp, h3]
        simp
      refine hC.go [] 60 ?_
      simp [bsl, h1, hb, hext, hw]
      repeat (refine ⟨by omega, ?_⟩)
      exact go_to [(.can 0, .nm (.loc 25))] (ih ⟨(out ++ [p], i + 1, i + 1), by dsimp only; omega, by dsimp only; omega, by simp; omega, [], by simp, by simp, by simp, hn2⟩ (by simp; omega)) (by simp [hw])
    · have hb : ¬ byteAt (bs S) (i : Int) = z := by rw [hz]; exact lit_ne h2 hy
      refine hC.go [] 60 ?_
      simp [bsl, h1, hb]
      exact go_to [] (ih ⟨(out, f, i + 1), by dsimp only; omega, by dsimp only; omega, by dsimp only; omega, p ++ [y], by rw [hp, hd, h3]; simp, splitC_step c p [] hcp y hy, by simp [hpl]; omega, hn⟩ (by simp; omega)) (by simp [hw])
theorem g113 (Gl : Granted) (S : Bs) (c : UInt8) (z : Int) (hz : z = (c.toNat : Int)) (hS : S.length ≤ 1000000) : Fun Tryz.prog Gl 113 [vS (bs S), .pv (.val (.int .u8 z))] [] (vI (atB c S 0)) [] := by
  refine fun_of (T := T4) (n := 18) (rs := [.tmp 4]) Tryz.func113 (by kernel_rfl) rfl rfl rfl tok4 mixed (by simp) fun C hC => ?_
  refine hC.go [] 60 ?_
  simp
  refine go_loop (ι := {i : Nat // i ≤ S.length ∧ atB c S 0 = atB c (S.drop i) i}) (fun x => ⟨[(0, vS (bs S)), (1, .pv (.val (.int .u8 z))), (5, vI x.1)], []⟩) (fun x => S.length - x.1) ⟨0, by simp⟩ [] (by simp) fun x ih => ?_
  obtain ⟨i, hi, hn⟩ := x
  simp only at hi hn ih
  rcases drop_or S i with hd | ⟨y, t, hd⟩
  · have hge := drop_nil hd
    have hlt : ¬ i < S.length := by omega
    rw [hd] at hn
    simp only [atB] at hn
    refine hC.go [] 60 ?_
    simp [bsl, hlt, hn]
  · obtain ⟨h1, h2, h3, _⟩ := drop_at hd
    have hw := wr64 ((i : Int) + 1) (by omega)
    rw [hd] at hn
    simp only [atB] at hn
    by_cases hy : y = c
    · subst hy
      rw [if_pos rfl] at hn
      have hb : byteAt (bs S) (i : Int) = z := by rw [h2, hz]
      refine hC.go [] 60 ?_
      simp [bsl, h1, hb, hn]
    · rw [if_neg hy, ← h3] at hn
      have hb : ¬ byteAt (bs S) (i : Int) = z := by rw [hz]; exact lit_ne h2 hy
      refine hC.go [] 60 ?_
      simp [bsl, h1, hb]
      exact go_to [] (ih ⟨i + 1, h1, hn⟩ (by simp; omega)) (by simp [hw])
end Go.Proofs.D
/-
  SCHEMAS: as the answer has them; can one be gone through? Defaults, and what is taken.
-/
set_option linter.unusedVariables false
set_option linter.unusedSimpArgs false
namespace Go.Proofs.D
open Go Go.Abs Go.RowKit
attribute [local simp] VC VCS stepVS stepTopS firstId memN bigB unmark markT mkOff calmP keepT boundB stepV stepTop stepReg stepOp stMove stPick stBin stUn stConv stBox stAlloc stLoad stStore stFieldAddr stField stExtract stNilCheck stMakeFunc stIndexAddr stIndex stLen
  stBuild placesOf fillA stBuildSlice sliceCells repL chunks allPV toPV drawOk drawOk.go mayMakeO mayMake1 disjoint pairOk Oper.apart Oper.looksAt Op.operands Call.operands Region.binds stAppend appBase appTail unName stSlice bndA
  LS.ev LS.get LS.blk LS.put LS.app LS.upd lkS lkH setS setH Nm.eqb guardOf nexts okPair dstOk AV.cellsOf takeAt putAt lkT sliceE fieldT intK isStrT isBoolT abin newOk LS.freshB LS.freshB.go LS.freshB.goH notIn AV.ments AV.ments.mentsL Blk.ments makes upsMents LS.start startL exitTo T T3 T4 outs callSideR callSideO callSideD upsR backO freshAll argB onlyIO List.map List.append List.nil_append List.cons_append Nat.blt
  conv convS convH srcs srcOf blkOk leA leA.leL Go.Abs.leB leP laid laidM laidG isArg subH retP resAV resL res1 AV.frz AV.frz.frzL evL AV.ren AV.ren.renL Blk.ren renBs blksOf allSome nodupB onlyArgs blksMents callUps keyed inName inName.go backName callSide
abbrev zeroK : List AV := [vS ⟨#[]⟩, .pv (.val (.int .u8 0)), vS ⟨#[]⟩, .pv (.nilS 3), .pv (.nilS 2)]
set_option maxRecDepth 20000 in
set_option maxHeartbeats 4000000 in
theorem g53 (Gl : Granted) (k : Kd) (hk : k.content.cnt ≤ 1000000) (ha : k.attrs.length ≤ 1000000) : Fun Tryz.prog Gl 53 [k.av] [] k.av [] := by
  refine fun_of (T := T4) (n := 37) (rs := [.cell 2 123]) Tryz.func53 (by kernel_rfl) rfl rfl rfl tok4 mixed (by simp) fun C hC => ?_
  refine hC.go [] 60 ?_
  simp [Kd.av, Kd.cells, E.cells]
  refine hC.drawn (by kernel_rfl) (by simp) ?_
  refine hC.go [] 60 ?_
  simp
  refine hC.call [] (asE Gl k.content hk) (by simp [E.av, E.cells]) ?_
  refine hC.go [] 60 ?_
  simp [E.av, E.cells]
  refine go_loop (ι := {i : Nat // i ≤ k.attrs.length}) (fun x => ⟨[(1, .ptr (.loc 1) 0), (2, .ptr (.loc 2) 0), (3, .ptr (.loc 3) 0), (4, vI x.1)], [(.loc 1, some (.box 57 k.cells)), (.loc 2, some (.box 123 zeroK)), (.loc 3, some (.box 123 (vS k.name :: (k.content.cells ++ [.own (.can 0)])))), (.can 0, some (.row 61 2 ((k.attrs.map Dc.pv).take x.1)))]⟩)
    (fun x => k.attrs.length - x.1) ⟨0, by simp⟩ [(.can 0, .nil)] (by simp [Kd.cells, E.cells]) fun x ih => ?_
  obtain ⟨i, hi⟩ := x
  simp only at hi ih
  by_cases hlt : i < k.attrs.length
  · have hw := wr64 ((i : Int) + 1) (by omega)
    have htk := take_row Dc.pv hlt
    refine hC.go [] 60 ?_
    simp [Kd.cells, E.cells, hlt]
    refine hC.drawn (by kernel_rfl) (by simp) ?_
    refine hC.go [] 60 ?_
    simp [hlt]
    refine ⟨by omega, ?_⟩
    exact go_to [(.can 0, .nm (.loc 34))] (ih ⟨i + 1, hlt⟩ (by simp; omega)) (by simp [hw, Kd.cells, E.cells, htk])
  · have hlt' : ¬ (i : Int) < k.attrs.length := by omega
    have htk : (k.attrs.map Dc.pv).take i = k.attrs.map Dc.pv := List.take_of_length_le (by simp; omega)
    rw [htk]
    refine hC.til [6] [] 60 ?_
    simp [Kd.cells, E.cells, hlt]
    refine go_to (M := ⟨[(2, .ptr (.loc 2) 0), (3, .ptr (.loc 3) 0)], [(.loc 2, some (.box 123 zeroK)), (.loc 3, some (.box 123 k.cells))]⟩) [] (hC.go [] 60 ?_) (by simp [Kd.cells, E.cells])
    simp [Kd.av, Kd.cells, E.cells]
set_option maxRecDepth 20000 in
set_option maxHeartbeats 4000000 in
theorem g18 (Gl : Granted) (s : Sc) (hk : ∀ k ∈ s.kinds, k.content.cnt ≤ 1000000 ∧ k.attrs.length ≤ 1000000) (hl : s.kinds.length ≤ 1000000) : Fun Tryz.prog Gl 18 [s.av] [] s.av [] := by
  refine fun_of (T := T4) (n := 27) (rs := [.cell 2 48]) Tryz.func18 (by kernel_rfl) rfl rfl rfl tok4 mixed (by simp) fun C hC => ?_
  refine hC.go [] 60 ?_
  simp [Sc.av, Sc.cells]
  refine go_loop (ι := {i : Nat // i ≤ s.kinds.length}) (fun x => ⟨[(1, .ptr (.loc 1) 0), (2, .ptr (.loc 2) 0), (3, .ptr (.loc 3) 0), (4, vI x.1)], [(.loc 1, some (.box 42 s.cells)), (.loc 2, some (.box 48 [.pv (.nilS 5), .pv (.nilS 1)])), (.loc 3, some (.box 48 [.own (.can 0), .pv (strs s.marks)])), (.can 0, some (.row 123 5 ((s.kinds.map Kd.pv).take x.1)))]⟩)
    (fun x => s.kinds.length - x.1) ⟨0, by simp⟩ [(.can 0, .nil)] (by simp [Sc.cells]) fun x ih => ?_
  obtain ⟨i, hi⟩ := x
  simp only at hi ih
  by_cases hlt : i < s.kinds.length
  · have hw := wr64 ((i : Int) + 1) (by omega)
    have htk := take_row Kd.pv hlt
    obtain ⟨k, hkk⟩ : ∃ k, s.kinds[i] = k := ⟨_, rfl⟩
    obtain ⟨q1, q2⟩ := hk k (by rw [← hkk]; simp)
    rw [hkk] at htk
    refine hC.go [] 60 ?_
    simp [Sc.cells, hlt]
    refine hC.drawn (by kernel_rfl) (by simp) ?_
    refine hC.go [] 60 ?_
    simp [hlt, hkk, Kd.pv_eq, E.pv_eq]
    refine hC.call [] (g53 Gl k q1 q2) (by simp [Kd.av, Kd.cells, E.cells]) ?_
    refine hC.go [] 60 ?_
    simp [Kd.av, Kd.cells, E.cells]
    refine ⟨by omega, ?_⟩
    exact go_to [(.can 0, .nm (.loc 24))] (ih ⟨i + 1, hlt⟩ (by simp; omega)) (by simp [hw, Sc.cells, htk, Kd.pv_eq, E.pv_eq])
  · have hlt' : ¬ (i : Int) < s.kinds.length := by omega
    have htk : (s.kinds.map Kd.pv).take i = s.kinds.map Kd.pv := List.take_of_length_le (by simp; omega)
    rw [htk]
    refine hC.til [6] [] 60 ?_
    simp [Sc.cells, hlt]
    refine go_to (M := ⟨[(2, .ptr (.loc 2) 0), (3, .ptr (.loc 3) 0)], [(.loc 2, some (.box 48 [.pv (.nilS 5), .pv (.nilS 1)])), (.loc 3, some (.box 48 s.cells))]⟩) [] (hC.go [] 60 ?_) (by simp [Sc.cells])
    simp [Sc.av, Sc.cells]
set_option maxRecDepth 20000 in
set_option maxHeartbeats 4000000 in
theorem g17 (Gl : Granted) (s : Sc) (hw : s.wide) : Fun Tryz.prog Gl 17 [s.av] [] (vB s.lite) [] := by
  have hM : M47 = 140737488355328 := rfl
  obtain ⟨w1, w2, w3, w4⟩ := hw
  have hli : s.lite = (decide (0 < kindsGo s.kinds 600) && (decide ((s.kinds.length : Int) < 40) && decide ((s.marks.length : Int) < 40))) := rfl
  refine fun_of (T := T4) (n := 84) (rs := [.tmp 2]) Tryz.func17 (by kernel_rfl) rfl rfl rfl tok4 mixed (by simp) fun C hC => ?_
  refine hC.go [] 60 ?_
  simp [Sc.av, Sc.cells]
  refine go_loop (ι := {x : Nat × Int // x.1 ≤ s.kinds.length ∧ kindsGo s.kinds 600 = kindsGo (s.kinds.drop x.1) x.2}) (fun x => ⟨[(1, .ptr (.loc 1) 0), (3, vI x.1.2), (4, vI x.1.1)], [(.loc 1, some (.box 42 s.cells))]⟩)
    (fun x => s.kinds.length - x.1.1) ⟨(0, 600), by simp⟩ [] (by simp [Sc.cells]) fun x ih => ?_
  obtain ⟨⟨i, left⟩, hi, hn⟩ := x
  simp only at hi hn ih
  have fin : kindsGo s.kinds 600 = left → ∀ L' : Int, L' = left → s.lite = (decide (0 < left) && (decide ((s.kinds.length : Int) < 40) && decide ((s.marks.length : Int) < 40))) := fun h _ _ => by rw [hli, h]
  by_cases hlt : i < s.kinds.length
  · have hw1 := wr64 ((i : Int) + 1) (by omega)
    obtain ⟨k, hkk⟩ : ∃ k, s.kinds[i] = k := ⟨_, rfl⟩
    rw [List.drop_eq_getElem_cons hlt, hkk] at hn
    simp only [kindsGo] at hn
    by_cases h0 : 0 < left
    · rw [if_pos h0] at hn
      obtain ⟨l0, hl0⟩ : ∃ l0, wr .i64 (wr .i64 (k.content.light left - k.attrs.length) - wr .i64 ((k.name.size : Int) / 20)) = l0 := ⟨_, rfl⟩
      have hkg : kindGo k left = valsGo k.attrs l0 := by unfold kindGo; rw [hl0]
      rw [hkg] at hn
      obtain ⟨f1, f2, f3, f4⟩ := w1 k (by rw [← hkk]; simp)
      refine hC.go [] 60 ?_
      simp [Sc.cells, hlt, h0]
      refine hC.drawn (by kernel_rfl) (by simp) ?_
      refine hC.go [] 60 ?_
      simp [hlt, hkk, Kd.pv_eq, E.pv_eq]
      refine hC.call [] (f16 Gl k.content left) (by simp [E.av, E.cells]) ?_
      refine hC.go [] 60 ?_
      simp [hlt, hkk, Kd.pv_eq, E.pv_eq, hl0]
      refine go_loop (ι := {x : Nat × Int // x.1 ≤ k.attrs.length ∧ valsGo k.attrs l0 = valsGo (k.attrs.drop x.1) x.2}) (fun x => ⟨[(1, .ptr (.loc 1) 0), (3, vI x.1.2), (4, vI i), (5, vI x.1.1)], [(.loc 1, some (.box 42 s.cells))]⟩)
        (fun x => k.attrs.length - x.1.1) ⟨(0, l0), by simp⟩ [] (by simp [Sc.cells]) fun x ih2 => ?_
      obtain ⟨⟨j, l1⟩, hj, hn2⟩ := x
      simp only at hj hn2 ih2
      by_cases hlj : j < k.attrs.length
      · have hw2 := wr64 ((j : Int) + 1) (by omega)
        rw [List.drop_eq_getElem_cons hlj] at hn2
        simp only [valsGo] at hn2
        by_cases h1 : 0 < l1
        · rw [if_pos h1] at hn2
          refine hC.go [] 60 ?_
          simp [Sc.cells, hlt, hkk, Kd.pv_eq, E.pv_eq, hlj, h1]
          exact go_to [] (ih2 ⟨(j + 1, _), hlj, hn2⟩ (by simp; omega)) (by simp [hw2, Sc.cells])
        · rw [if_neg h1] at hn2
          refine hC.go [] 60 ?_
          simp [Sc.cells, hlt, hkk, Kd.pv_eq, E.pv_eq, hlj, h1]
          exact go_to [] (ih ⟨(i + 1, l1), hlt, by rw [hn, hn2]⟩ (by simp; omega)) (by simp [hw1, Sc.cells])
      · rw [List.drop_eq_nil_of_le (by omega)] at hn2
        simp only [valsGo] at hn2
        have hlj' : ¬ (j : Int) < k.attrs.length := by omega
        refine hC.go [] 60 ?_
        simp [Sc.cells, hlt, hkk, Kd.pv_eq, E.pv_eq, hlj]
        exact go_to [] (ih ⟨(i + 1, l1), hlt, by rw [hn, hn2]⟩ (by simp; omega)) (by simp [hw1, Sc.cells])
    · rw [if_neg h0] at hn
      have hf := fin hn left rfl
      rw [decide_eq_false h0, Bool.false_and] at hf
      refine hC.go [] 60 ?_
      simp [Sc.cells, hlt, h0, hf]
  · rw [List.drop_eq_nil_of_le (by omega)] at hn
    simp only [kindsGo] at hn
    have hf := fin hn left rfl
    have hlt' : ¬ (i : Int) < s.kinds.length := by omega
    by_cases h0 : 0 < left
    · by_cases h1 : (s.kinds.length : Int) < 40
      · have h1' : s.kinds.length < 40 := by omega
        rw [decide_eq_true h0, decide_eq_true h1, Bool.true_and, Bool.true_and] at hf
        refine hC.go [] 60 ?_
        simp [Sc.cells, hlt, h0, h1, h1', hf]
      · have h1' : ¬ s.kinds.length < 40 := by omega
        rw [decide_eq_false h1] at hf
        simp only [Bool.false_and, Bool.and_false] at hf
        refine hC.go [] 60 ?_
        simp [Sc.cells, hlt, h0, h1, h1', hf]
    · rw [decide_eq_false h0, Bool.false_and] at hf
      refine hC.go [] 60 ?_
      simp [Sc.cells, hlt, h0, hf]
theorem g26 (Gl : Granted) (d : Dc) : Fun Tryz.prog Gl 26 [d.av] [] (vS d.first) [] := by
  refine fun_of (T := T4) (n := 11) (rs := [.tmp 2]) Tryz.func26 (by kernel_rfl) rfl rfl rfl tok4 mixed (by simp) fun C hC => ?_
  obtain ⟨nm, vals⟩ := d
  cases vals with
  | nil =>
    refine hC.go [] 60 ?_
    simp [Dc.first]
  | cons v l =>
    have h1 : ¬ ((l.length : Int) + 1 = 0) := by omega
    refine hC.go [] 60 ?_
    simp [Dc.first, h1]
theorem g28 (Gl : Granted) (d : Dc) (v : ByteArray) (hv : v.size ≤ 70368744177664) (hl : d.vals.length ≤ 1000000) : Fun Tryz.prog Gl 28 [d.av, vS v] [] (vB (d.takes v)) [] := by
  have ht : d.takes v = if d.vals = [] then value v else d.vals.any fun x => decide (v = x) := rfl
  obtain ⟨nm, l⟩ := d
  simp only at ht hl
  refine fun_of (T := T4) (n := 28) (rs := [.tmp 4]) Tryz.func28 (by kernel_rfl) rfl rfl rfl tok4 mixed (by simp) fun C hC => ?_
  refine hC.go [] 60 ?_
  simp
  refine go_loop (ι := {i : Nat // i ≤ l.length ∧ (l.any fun x => decide (v = x)) = (l.drop i).any fun x => decide (v = x)}) (fun x => ⟨[(1, vS v), (2, .ptr (.loc 2) 0), (5, vI x.1)], [(.loc 2, some (.box 61 [vS nm, .pv (strs l)]))]⟩)
    (fun x => l.length - x.1) ⟨0, by simp⟩ [] (by simp) fun x ih => ?_
  obtain ⟨i, hi, hn⟩ := x
  simp only at hi hn ih
  by_cases hlt : i < l.length
  · have hw := wr64 ((i : Int) + 1) (by omega)
    have hne : ¬ l = [] := fun e => by rw [e] at hlt; simp at hlt
    rw [if_neg hne] at ht
    rw [List.drop_eq_getElem_cons hlt, List.any_cons] at hn
    by_cases he : l[i] = v
    · have : (Dc.mk nm l).takes v = true := by rw [ht, hn, he]; simp
      refine hC.go [] 60 ?_
      simp [hlt, he, this]
    · have he' : ¬ v = l[i] := fun e => he e.symm
      rw [decide_eq_false he', Bool.false_or] at hn
      refine hC.go [] 60 ?_
      simp [hlt, he]
      exact go_to [] (ih ⟨i + 1, hlt, hn⟩ (by simp; omega)) (by simp [hw])
  · rw [List.drop_eq_nil_of_le (by omega), List.any_nil] at hn
    have hlt' : ¬ (i : Int) < l.length := by omega
    by_cases he : l = []
    · rw [if_pos he] at ht
      subst he
      refine hC.go [] 60 ?_
      have hi0 : ¬ (i : Int) < 0 := by omega
      simp [hi0]
      refine hC.call [] (g38 Gl v hv) (by simp) ?_
      refine hC.go [] 60 ?_
      simp [ht]
    · rw [if_neg he, hn] at ht
      have hne : ¬ (l.length : Int) = 0 := fun h => he (List.eq_nil_of_length_eq_zero (by omega))
      refine hC.go [] 60 ?_
      simp [hlt, hne, ht, he]
end Go.Proofs.D
/-
  THE ANSWER TO CHAPTER 8: the kind of a line.
-/
set_option linter.unusedVariables false
set_option linter.unusedSimpArgs false
namespace Go.Proofs.D
open Go Go.Abs Go.RowKit
attribute [local simp] VC VCS stepVS stepTopS firstId memN bigB unmark markT mkOff calmP keepT boundB stepV stepTop stepReg stepOp stMove stPick stBin stUn stConv stBox stAlloc stLoad stStore stFieldAddr stField stExtract stNilCheck stMakeFunc stIndexAddr stIndex stLen
  stBuild placesOf fillA stBuildSlice sliceCells repL chunks allPV toPV drawOk drawOk.go mayMakeO mayMake1 disjoint pairOk Oper.apart Oper.looksAt Op.operands Call.operands Region.binds stAppend appBase appTail unName stSlice bndA
  LS.ev LS.get LS.blk LS.put LS.app LS.upd lkS lkH setS setH Nm.eqb guardOf nexts okPair dstOk AV.cellsOf takeAt putAt lkT sliceE fieldT intK isStrT isBoolT abin newOk LS.freshB LS.freshB.go LS.freshB.goH notIn AV.ments AV.ments.mentsL Blk.ments makes upsMents LS.start startL exitTo T T3 T4 outs callSideR callSideO callSideD upsR backO freshAll argB onlyIO List.map List.append List.nil_append List.cons_append Nat.blt
  conv convS convH srcs srcOf blkOk leA leA.leL Go.Abs.leB leP laid laidM laidG isArg subH retP resAV resL res1 AV.frz AV.frz.frzL evL AV.ren AV.ren.renL Blk.ren renBs blksOf allSome nodupB onlyArgs blksMents callUps keyed inName inName.go backName callSide
theorem ext0 (S : Bs) (n : Nat) : (bs S).extract 0 n = bs (S.take n) := bsExt (by simp [bs, ByteArray.data_extract])
theorem extL (S : Bs) (n : Nat) : (bs S).extract n S.length = bs (S.drop n) := bsExt (by
  simp only [bs, ByteArray.data_extract]
  simp
  exact List.take_of_length_le (by simp))
def ownK (c : E) (w0 : Bs) : List AV := vS (bs w0) :: (c.cells ++ [.own (.can 0)])
def zeroK2 : List AV := [vS ⟨#[]⟩, .pv (.val (.int .u8 0)), vS ⟨#[]⟩, .pv (.nilS 3), .pv (.nilS 2)]
theorem tail_take {α : Type} (l : List α) (i : Nat) (h : i < l.length) : l.drop i = l[i] :: l.drop (i + 1) := List.drop_eq_getElem_cons h
set_option maxRecDepth 20000 in
set_option maxHeartbeats 8000000 in
theorem g67 (Gl : Granted) (S : Bs) (hS : S.length ≤ 100000) : Fun Tryz.prog Gl 67 [vS (bs S)] [] (readK S).av [] := by
  have hrk : readK S = if atB 58 S 0 < 0 ∨ (S.length : Int) < atB 58 S 0 + 2 then k0 else
    match declsR [] (splitC 32 (S.take (atB 58 S 0).toNat)).tail with
    | none => k0
    | some ds => ⟨bs ((splitC 32 (S.take (atB 58 S 0).toNat)).headD []), (parse (bs (S.drop ((atB 58 S 0).toNat + 2)))).1, ds⟩ := rfl
  have hk0 : k0.av = .agg [vS ⟨#[]⟩, .pv (.val (.int .u8 0)), vS ⟨#[]⟩, .pv (.ro 3 []), .pv (.ro 2 [])] := rfl
  have c58 : ((58 : UInt8).toNat : Int) = 58 := rfl
  have c32 : ((32 : UInt8).toNat : Int) = 32 := rfl
  have c61 : ((61 : UInt8).toNat : Int) = 61 := rfl
  have c124 : ((124 : UInt8).toNat : Int) = 124 := rfl
  refine fun_of (T := T4) (n := 85) (rs := [.cell 2 123]) Tryz.func67 (by kernel_rfl) rfl rfl rfl tok4 mixed (by simp) fun C hC => ?_
  refine hC.go [] 60 ?_
  simp
  refine hC.call [] (g113 Gl S 58 58 c58.symm (by omega)) (by simp) ?_
  rcases atB_lt 58 S 0 with h | ⟨n, hn, hnl⟩
  · rw [h, if_pos (.inl (by omega))] at hrk
    rw [hrk] at hC
    simp only [hk0] at hC
    rw [h]
    refine hC.go [] 60 ?_
    simp
  · rw [Nat.zero_add] at hn
    have hw2 := wr64 ((n : Int) + 2) (by omega)
    rw [hn] at hrk ⊢
    by_cases h2 : (S.length : Int) < n + 2
    · rw [if_pos (.inr h2)] at hrk
      rw [hrk] at hC
      simp only [hk0] at hC
      have hn0 : ¬ (n : Int) < 0 := by omega
      refine hC.go [] 60 ?_
      simp [hn0, hw2, bsl, h2]
    · have hn0 : ¬ (n : Int) < 0 := by omega
      rw [if_neg (by omega), Int.toNat_natCast] at hrk
      obtain ⟨W, hW⟩ : ∃ W, splitC 32 (S.take n) = W := ⟨_, rfl⟩
      have hWl : ∀ x ∈ W, x.length ≤ 100000 := fun x hx => by
        have := splitC_len 32 (S.take n) x (by rw [hW]; exact hx)
        rw [List.length_take] at this
        omega
      have hWm : W.length ≤ 100001 := by
        have := splitC_many 32 (S.take n)
        rw [hW, List.length_take] at this
        omega
      have hcut := g66 Gl (S.take n) 32 32 c32.symm (by rw [List.length_take]; omega)
      rw [hW] at hrk hcut
      obtain ⟨w0, ws, rfl⟩ := List.exists_cons_of_ne_nil (show W ≠ [] by rw [← hW]; exact splitC_ne 32 _)
      simp only [List.tail_cons, List.headD_cons] at hrk
      have hWm' : ws.length ≤ 100000 := by simpa using hWm
      have hpc := g114 Gl (bs (S.drop (n + 2))) (by rw [bsl, List.length_drop]; omega)
      generalize parse (bs (S.drop (n + 2))) = pa at hrk hpc
      obtain ⟨c, pe⟩ := pa
      simp only at hrk hpc
      have hle2 : n + 2 ≤ S.length := by omega
      have e2 : ((n : Int) + 2).toNat = n + 2 := by omega
      refine hC.go [] 60 ?_
      simp [hn0, hw2, bsl, h2, ext0]
      refine ⟨by omega, ?_⟩
      refine hC.call [] hcut (by simp) ?_
      refine hC.go [] 60 ?_
      simp [hw2, bsl, e2, extL]
      refine ⟨by omega, ?_⟩
      refine hC.call [] hpc (by simp [E.av, E.cells]) ?_
      refine hC.go [] 60 ?_
      simp [E.av, E.cells]
      refine hC.drawn (by kernel_rfl) (by simp) ?_
      refine hC.go [] 60 ?_
      simp
      refine go_loop (ι := {x : Nat × List Dc // x.1 ≤ ws.length ∧ declsR [] ws = declsR x.2 (ws.drop x.1) ∧ x.2.length ≤ x.1})
        (fun x => ⟨[(2, .ptr (.loc 2) 0), (4, .pv (strs ((w0 :: ws).map bs))), (7, .ptr (.loc 7) 0), (8, vI (x.1.1 + 1))], [(.loc 2, some (.box 123 zeroK2)), (.loc 7, some (.box 123 (ownK c w0))), (.can 0, some (.row 61 2 (x.1.2.map Dc.pv)))]⟩)
        (fun x => ws.length - x.1.1) ⟨(0, []), by simp, by simp, by simp⟩ [(.can 0, .nil)] (by simp [zeroK2, ownK, E.cells]) fun x ih => ?_
      obtain ⟨⟨j, acc⟩, hj, hds, hal⟩ := x
      simp only at hj hds hal ih
      by_cases hlt : j < ws.length
      · have hw8 := wr64 ((j : Int) + 1 + 1) (by omega)
        obtain ⟨w, hw⟩ : ∃ w, ws[j] = w := ⟨_, rfl⟩
        rw [tail_take ws j hlt, hw] at hds
        simp only [declsR] at hds
        have hwl : w.length ≤ 100000 := hWl w (by rw [← hw]; simp)
        refine hC.go [] 60 ?_
        simp [hlt, hw]
        refine ⟨by omega, ?_⟩
        refine hC.call [] (g113 Gl w 61 61 c61.symm (by omega)) (by simp) ?_
        rcases atB_lt 61 w 0 with hm | ⟨m, hm, hml⟩
        · rw [if_pos (by omega)] at hds
          rw [hds] at hrk
          simp only at hrk
          rw [hrk] at hC
          simp only [hk0] at hC
          rw [hm]
          refine hC.go [] 60 ?_
          simp [zeroK2]
        · rw [Nat.zero_add] at hm
          rw [if_neg (by omega)] at hds
          have hwm := wr64 ((m : Int) + 1) (by omega)
          have hm0 : ¬ (m : Int) < 0 := by omega
          have em : ((m : Int) + 1).toNat = m + 1 := by omega
          have hdr : declR w = ⟨bs (w.take m), if w.drop (m + 1) = [42] then [] else (splitC 124 (w.drop (m + 1))).map bs⟩ := by
            unfold declR
            rw [hm, Int.toNat_natCast]
          have hj0 : 0 ≤ (j : Int) + 1 := by omega
          have hm1 : 0 ≤ (m : Int) + 1 := by omega
          have hmw : m ≤ w.length := by omega
          have hmw1 : m + 1 ≤ w.length := by omega
          have hmi : (m : Int) ≤ w.length := by omega
          have hmi1 : (m : Int) + 1 ≤ w.length := by omega
          rw [hm]
          by_cases hst : w.drop (m + 1) = [42]
          · have hst' : (bs (w.drop (m + 1)) = ⟨#[42]⟩) = True := eq_true (by rw [hst]; rfl)
            rw [if_pos hst] at hdr
            refine hC.til [16] [] 60 ?_
            simp [hlt, hw, hj0, hm1, hmw, hmw1, hmi, hmi1, hml, hm0, hwm, bsl, ext0, extL, em, hst', zeroK2, ownK, E.cells]
            refine go_to (M := ⟨[(2, .ptr (.loc 2) 0), (4, .pv (strs ((w0 :: ws).map bs))), (7, .ptr (.loc 7) 0), (8, vI (j + 1)), (10, .ptr (.loc 10) 0)], [(.loc 2, some (.box 123 zeroK2)), (.loc 7, some (.box 123 (ownK c w0))), (.can 0, some (.row 61 2 (acc.map Dc.pv))), (.loc 10, some (.box 61 [vS (bs (w.take m)), .pv (strs [])]))]⟩) [] ?_ (by simp [zeroK2, ownK, E.cells])
            refine hC.go [] 60 ?_
            simp [zeroK2, ownK, E.cells]
            repeat (refine ⟨by omega, ?_⟩)
            exact go_to [(.can 0, .nm (.loc 82))] (ih ⟨(j + 1, acc ++ [declR w]), hlt, hds, by simp; omega⟩ (by simp; omega)) (by simp [hw8, zeroK2, ownK, E.cells, hdr])
          · have hst' : ¬ bs (w.drop (m + 1)) = ⟨#[42]⟩ := fun h => hst (by rw [← bs_list (w.drop (m + 1)), h])
            rw [if_neg hst] at hdr
            refine hC.til [16] [] 60 ?_
            simp [hlt, hw, hj0, hm1, hmw, hmw1, hmi, hmi1, hml, hm0, hwm, bsl, ext0, extL, em, hst', zeroK2, ownK, E.cells]
            refine hC.call [] (g66 Gl (w.drop (m + 1)) 124 124 c124.symm (by rw [List.length_drop]; omega)) (by simp) ?_
            refine hC.til [16] [] 60 ?_
            simp [zeroK2, ownK, E.cells]
            refine go_to (M := ⟨[(2, .ptr (.loc 2) 0), (4, .pv (strs ((w0 :: ws).map bs))), (7, .ptr (.loc 7) 0), (8, vI (j + 1)), (10, .ptr (.loc 10) 0)], [(.loc 2, some (.box 123 zeroK2)), (.loc 7, some (.box 123 (ownK c w0))), (.can 0, some (.row 61 2 (acc.map Dc.pv))), (.loc 10, some (.box 61 [vS (bs (w.take m)), .pv (strs ((splitC 124 (w.drop (m + 1))).map bs))]))]⟩) [] ?_ (by simp [zeroK2, ownK, E.cells])
            refine hC.go [] 60 ?_
            simp [zeroK2, ownK, E.cells]
            repeat (refine ⟨by omega, ?_⟩)
            exact go_to [(.can 0, .nm (.loc 82))] (ih ⟨(j + 1, acc ++ [declR w]), hlt, hds, by simp; omega⟩ (by simp; omega)) (by simp [hw8, zeroK2, ownK, E.cells, hdr])
      · have hlt' : ¬ (j : Int) < ws.length := by omega
        rw [List.drop_eq_nil_of_le (by omega)] at hds
        simp only [declsR] at hds
        rw [hds] at hrk
        simp only at hrk
        rw [hrk] at hC
        refine hC.til [17] [] 60 ?_
        simp [hlt, hlt']
        refine go_to (M := ⟨[(2, .ptr (.loc 2) 0), (7, .ptr (.loc 7) 0)], [(.loc 2, some (.box 123 zeroK2)), (.loc 7, some (.box 123 (vS (bs w0) :: (c.cells ++ [.pv (dcs acc)]))))]⟩) [] ?_ (by simp [ownK, E.cells, zeroK2])
        refine hC.go [] 10 ?_
        simp [zeroK2, E.cells, Kd.av, Kd.cells]
end Go.Proofs.D
/-
  THE LAW SchemaReads.
-/
set_option linter.unusedVariables false
set_option linter.unusedSimpArgs false
namespace Go.Proofs.D
open Go Go.Abs Go.RowKit
attribute [local simp] VC VCS stepVS stepTopS firstId memN bigB unmark markT mkOff calmP keepT boundB stepV stepTop stepReg stepOp stMove stPick stBin stUn stConv stBox stAlloc stLoad stStore stFieldAddr stField stExtract stNilCheck stMakeFunc stIndexAddr stIndex stLen
  stBuild placesOf fillA stBuildSlice sliceCells repL chunks allPV toPV drawOk drawOk.go mayMakeO mayMake1 disjoint pairOk Oper.apart Oper.looksAt Op.operands Call.operands Region.binds stAppend appBase appTail unName stSlice bndA
  LS.ev LS.get LS.blk LS.put LS.app LS.upd lkS lkH setS setH Nm.eqb guardOf nexts okPair dstOk AV.cellsOf takeAt putAt lkT sliceE fieldT intK isStrT isBoolT abin newOk LS.freshB LS.freshB.go LS.freshB.goH notIn AV.ments AV.ments.mentsL Blk.ments makes upsMents LS.start startL exitTo T T3 T4 outs callSideR callSideO callSideD upsR backO freshAll argB onlyIO List.map List.append List.nil_append List.cons_append Nat.blt
  conv convS convH srcs srcOf blkOk leA leA.leL Go.Abs.leB leP laid laidM laidG isArg subH retP resAV resL res1 AV.frz AV.frz.frzL evL AV.ren AV.ren.renL Blk.ren renBs blksOf allSome nodupB onlyArgs blksMents callUps keyed inName inName.go backName callSide
theorem find_cases (s : Sc) (name : ByteArray) : (s.place name < 0 ∧ s.find name = (k0, false)) ∨ (¬ s.place name < 0 ∧ ∃ k : Kd, s.find name = (k, true) ∧ k.name = name ∧ k ∈ s.kinds) := by
  rcases firstAt_lt (isKind name) s.kinds 0 with h | ⟨j, h1, h2, h3⟩
  · left
    have h' : s.place name < 0 := h
    exact ⟨h', by unfold Sc.find; rw [if_pos h']⟩
  · right
    have hp : s.place name = (j : Int) := by unfold Sc.place; rw [h1]; simp
    refine ⟨by omega, s.kinds[j], ?_, by simpa [isKind] using h3, by simp⟩
    unfold Sc.find
    rw [if_neg (by omega), hp]
    simp [h2]
set_option maxRecDepth 20000 in
set_option maxHeartbeats 8000000 in
theorem g4 (s : Sc) (name : ByteArray) (d : Dc) (v : ByteArray) (hs : s.wide) (hn : name.size ≤ M47) (hd : d.wide) (hv : v.size ≤ M47) : Fun Tryz.prog tabs 4 [s.av, vS name, d.av, vS v] [] (vB true) [] := by
  have hM : M47 = 140737488355328 := rfl
  obtain ⟨dn, dv⟩ := d
  obtain ⟨d1, d2, d3⟩ := hd
  simp only at d1 d2 d3
  refine fun_of (T := T4) (n := 122) (rs := [.tmp 8]) Tryz.func4 (by kernel_rfl) rfl rfl rfl tok4 mixed (by simp) fun C hC => ?_
  refine hC.go [] 60 ?_
  simp [Sc.av, Sc.cells]
  refine hC.call [] g16 (by simp) ?_
  refine hC.go [] 60 ?_
  simp
  refine hC.call [] (g17 tabs s hs) (by simp [Sc.av, Sc.cells]) ?_
  cases hl : s.lite with
  | false =>
    refine hC.go [] 60 ?_
    simp
  | true =>
    obtain ⟨hf, l1, l2, l3⟩ := lite_fit hs hl
    have hk : ∀ k ∈ s.kinds, k.content.cnt ≤ 1000000 ∧ k.attrs.length ≤ 1000000 := fun k hkm => by have := l3 k hkm; omega
    have hb : s.ok = true → s.bytes.length ≤ 1000000000 := fun h => by have := bytes_bd h l3; omega
    by_cases h1 : 200 < (v.size : Int)
    · refine hC.go [] 60 ?_
      simp [h1]
    · by_cases h2 : 50 < (dv.length : Int)
      · have h2' : 50 < dv.length := by omega
        refine hC.go [] 60 ?_
        simp [h1, h2, h2']
      · have h2' : ¬ 50 < dv.length := by omega
        refine hC.go [] 60 ?_
        simp [h1, h2, h2']
        refine hC.call [] (g18 tabs s hk (by omega)) (by simp [Sc.av, Sc.cells]) ?_
        refine hC.go [] 60 ?_
        simp [Sc.av, Sc.cells]
        refine hC.call [] (g19 tabs s hf hb) (by simp [Sc.av, Sc.cells]) ?_
        refine hC.go [] 60 ?_
        simp
        refine hC.call [] (g20 tabs s hf (by omega) (by omega) hb) (by simp [Sc.av, Sc.cells]) ?_
        refine hC.go [] 60 ?_
        simp
        refine hC.call [] (g21 tabs s name) (by simp [Sc.av, Sc.cells, Kd.av, Kd.cells, E.cells]) ?_
        refine hC.go [] 60 ?_
        simp [Kd.av, Kd.cells, E.cells]
        refine hC.call [] (g22 tabs s name (by omega)) (by simp [Sc.av, Sc.cells]) ?_
        refine hC.go [] 60 ?_
        simp
        refine hC.drawn (by kernel_rfl) (by simp) ?_
        refine hC.go [] 60 ?_
        simp
        refine hC.call [] (g23 tabs s hf) (by simp [Sc.av, Sc.cells]) ?_
        refine hC.go [] 60 ?_
        simp
        refine hC.call [] (g24 tabs s hf (by omega) (by omega)) (by simp [Sc.av, Sc.cells]) ?_
        rcases find_cases s name with ⟨p1, p2⟩ | ⟨p1, k, p2, p3, _⟩
        · have p1' : ¬ 0 ≤ s.place name := by omega
          rw [p2]
          refine hC.go [] 60 ?_
          simp [p1', k0]
          refine hC.call [] (g25 tabs ⟨dn, dv⟩) (by simp) ?_
          refine hC.go [] 60 ?_
          simp
          refine hC.call [] (g26 tabs ⟨dn, dv⟩) (by simp) ?_
          refine hC.go [] 60 ?_
          simp
          refine hC.call [] (g27 ⟨dn, dv⟩ v (by omega)) (by simp) ?_
          refine hC.go [] 60 ?_
          simp
          refine hC.call [] (g28 tabs ⟨dn, dv⟩ v (by omega) (by simp only; omega)) (by simp) ?_
          refine hC.go [] 60 ?_
          simp
        · have p1' : 0 ≤ s.place name := by omega
          rw [p2]
          refine hC.go [] 60 ?_
          simp [p1', p3]
          refine hC.call [] (g25 tabs ⟨dn, dv⟩) (by simp) ?_
          refine hC.go [] 60 ?_
          simp
          refine hC.call [] (g26 tabs ⟨dn, dv⟩) (by simp) ?_
          refine hC.go [] 60 ?_
          simp
          refine hC.call [] (g27 ⟨dn, dv⟩ v (by omega)) (by simp) ?_
          refine hC.go [] 60 ?_
          simp
          refine hC.call [] (g28 tabs ⟨dn, dv⟩ v (by omega) (by simp only; omega)) (by simp) ?_
          refine hC.go [] 60 ?_
          simp
end Go.Proofs.D
/-
  THE ANSWER TO CHAPTER 8: a schema is read.
-/
set_option linter.unusedVariables false
set_option linter.unusedSimpArgs false
namespace Go.Proofs.D
open Go Go.Abs Go.RowKit
attribute [local simp] VC VCS stepVS stepTopS firstId memN bigB unmark markT mkOff calmP keepT boundB stepV stepTop stepReg stepOp stMove stPick stBin stUn stConv stBox stAlloc stLoad stStore stFieldAddr stField stExtract stNilCheck stMakeFunc stIndexAddr stIndex stLen
  stBuild placesOf fillA stBuildSlice sliceCells repL chunks allPV toPV drawOk drawOk.go mayMakeO mayMake1 disjoint pairOk Oper.apart Oper.looksAt Op.operands Call.operands Region.binds stAppend appBase appTail unName stSlice bndA
  LS.ev LS.get LS.blk LS.put LS.app LS.upd lkS lkH setS setH Nm.eqb guardOf nexts okPair dstOk AV.cellsOf takeAt putAt lkT sliceE fieldT intK isStrT isBoolT abin newOk LS.freshB LS.freshB.go LS.freshB.goH notIn AV.ments AV.ments.mentsL Blk.ments makes upsMents LS.start startL exitTo T T3 T4 outs callSideR callSideO callSideD upsR backO freshAll argB onlyIO List.map List.append List.nil_append List.cons_append Nat.blt
  conv convS convH srcs srcOf blkOk leA leA.leL Go.Abs.leB leP laid laidM laidG isArg subH retP resAV resL res1 AV.frz AV.frz.frzL evL AV.ren AV.ren.renL Blk.ren renBs blksOf allSome nodupB onlyArgs blksMents callUps keyed inName inName.go backName callSide
theorem declR_small (w : Bs) (hw : w.length ≤ 2000) : (declR w).fit ∧ (declB (declR w)).length ≤ 4010 := by
  have hM : M47 = 140737488355328 := rfl
  refine ⟨⟨by simp only [declR, bsize, List.length_take]; omega, fun v hv => ?_⟩, ?_⟩
  · simp only [declR] at hv
    split at hv
    · cases hv
    · obtain ⟨x, hx, rfl⟩ := List.mem_map.1 hv
      have := splitC_len 124 _ x hx
      rw [List.length_drop] at this
      rw [bsize]
      omega
  · have hv : (valsB (declR w).vals).length ≤ 2001 := by
      unfold valsB
      split
      · simp
      · simp only [declR]
        split
        · simp [joinV, sepBy]
        · rw [joinV_bs, join_split, List.length_drop]; omega
    have hn : (declR w).name.data.toList.length ≤ 2000 := by simp only [declR]; rw [bs_list, List.length_take]; omega
    simp only [declB, List.length_append, List.length_cons]
    omega
theorem declsR_all {P : Dc → Prop} : ∀ (ws : List Bs) (acc ds : List Dc), declsR acc ws = some ds → (∀ d ∈ acc, P d) → (∀ w ∈ ws, P (declR w)) → (∀ d ∈ ds, P d) ∧ ds.length = acc.length + ws.length
  | [], acc, ds, h, ha, hw => by
    simp only [declsR, Option.some.injEq] at h
    subst h
    exact ⟨ha, by simp⟩
  | w :: ws, acc, ds, h, ha, hw => by
    simp only [declsR] at h
    split at h
    · cases h
    · obtain ⟨h1, h2⟩ := declsR_all ws _ ds h (fun d hd => by
        rcases List.mem_append.1 hd with hd | hd
        · exact ha d hd
        · simp at hd; rw [hd]; exact hw w (by simp)) (fun x hx => hw x (by simp [hx]))
      exact ⟨h1, by rw [h2]; simp; omega⟩
theorem none_bytes : (E.mk 0 ⟨#[]⟩ []).bytes.length ≤ 2000 := by
  have h : (E.mk 0 ⟨#[]⟩ []).right = false := by first | rfl | decide | simp [E.right, E.ok]
  unfold E.bytes E.print
  rw [if_neg (by rw [h]; decide)]
  decide
theorem k0_small : k0.fit ∧ (lineK k0).length ≤ 9000000 := by
  have hM : M47 = 140737488355328 := rfl
  have hb : k0.content.bytes.length ≤ 2000 := none_bytes
  refine ⟨⟨by rw [hM]; decide, E.small_mk (by decide) (fun k hk => by cases hk), by rw [k0_cnt]; decide, by decide, fun d hd => by cases hd⟩, ?_⟩
  simp only [lineK, headB, nodeS, List.length_append, List.length_cons, List.length_nil]
  have h1 : (k0.attrs.flatMap declB).length = 0 := rfl
  have h2 : k0.name.data.toList.length = 0 := rfl
  omega
theorem readK_small (l : Bs) (hl : l.length ≤ 2000) : (readK l).fit ∧ (lineK (readK l)).length ≤ 9000000 := by
  have hM : M47 = 140737488355328 := rfl
  unfold readK
  split
  · exact k0_small
  · have hsl := splitC_len 32 (l.take (atB 58 l 0).toNat)
    have hsm := splitC_many 32 (l.take (atB 58 l 0).toNat)
    have htl0 : (l.take (atB 58 l 0).toNat).length ≤ 2000 := by rw [List.length_take]; omega
    generalize l.take (atB 58 l 0).toNat = H at hsl hsm htl0
    cases hd : declsR [] (splitC 32 H).tail with
    | none => exact k0_small
    | some ds =>
      simp only
      obtain ⟨h1, h2⟩ := declsR_all (P := fun d => d.fit ∧ (declB d).length ≤ 4010) _ _ _ hd (fun d h => by cases h) (fun w hw => declR_small w (by
        have := hsl w (List.mem_of_mem_tail hw)
        omega))
      have hdn : ds.length ≤ 2001 := by
        rw [h2, List.length_tail]
        simp
        omega
      have hhd : ((splitC 32 H).headD []).length ≤ 2000 := by
        match hs : splitC 32 H with
        | [] => simp
        | a :: b =>
          rw [hs] at hsl
          have := hsl a (by simp)
          simp
          omega
      have hdl : (l.drop ((atB 58 l 0).toNat + 2)).length ≤ 2000 := by rw [List.length_drop]; omega
      generalize l.drop ((atB 58 l 0).toNat + 2) = B at hdl
      obtain ⟨p1, p2⟩ := parse_small (bs B) (by rw [bsize]; omega)
      have hcb : (parse (bs B)).1.bytes.length ≤ 2000 := by
        rcases parse_sound (bs B) with h | ⟨_, h3, h4⟩
        · rw [h]; exact none_bytes
        · unfold E.bytes E.print
          rw [if_pos h3, h4, bs_list]
          omega
      refine ⟨⟨by simp only [bsize]; omega, p1, by simp only; omega, by simp only; omega, fun d hd => (h1 d hd).1⟩, ?_⟩
      have hfl := flat_bound declB 4010 ds fun d hd => (h1 d hd).2
      have : ds.length * 4010 ≤ 2001 * 4010 := Nat.mul_le_mul_right _ hdn
      simp only [lineK, headB, nodeS, List.length_append, List.length_cons, List.length_nil, bs_list]
      omega
end Go.Proofs.D
