/-
  THE LAW ExprNames.
-/
import Derived.Test.YtonomogpephfkaaDoorD20
import Derived.Test.YtonomogpephfkaaDoorL8
set_option linter.unusedVariables false
set_option linter.unusedSimpArgs false
namespace Go.Proofs.D
open Go Go.Abs
attribute [local simp] VC stepV stepTop stepReg stepOp stMove stPick stBin stUn stConv stBox stAlloc stLoad stStore stFieldAddr stField stExtract stNilCheck stMakeFunc stIndexAddr stIndex stLen
  stBuild placesOf fillA stBuildSlice sliceCells repL chunks allPV toPV drawOk drawOk.go mayMakeO mayMake1 disjoint pairOk Oper.apart Oper.looksAt Op.operands Call.operands Region.binds stAppend appBase appTail unName stSlice bndA
  LS.ev LS.get LS.blk LS.put LS.app LS.upd lkS lkH setS setH Nm.eqb guardOf nexts okPair dstOk AV.cellsOf takeAt putAt lkT sliceE fieldT intK isStrT isBoolT abin newOk LS.freshB LS.freshB.go LS.freshB.goH notIn AV.ments AV.ments.mentsL Blk.ments makes upsMents LS.start startL exitTo T Nat.blt
  conv convS convH srcs srcOf blkOk leA leA.leL leB leP laid laidM isArg subH retP resAV resL res1 AV.frz AV.frz.frzL evL AV.ren AV.ren.renL Blk.ren renBs blksOf allSome nodupB onlyArgs blksMents callUps keyed inName inName.go backName callSide
attribute [local simp] Go.Abs.leB
set_option maxRecDepth 20000 in
set_option maxHeartbeats 4000000 in
theorem f9 (Gl : Granted) (e : E) (hs : e.small) (w : Row) (hb : w.length ≤ 140737488355328) : Fun Tryd.prog Gl 9 [e.av, rowAV w] [] (vB true) [] := by
  refine fun_of (T := T) (n := 75) (rs := [.tmp 4]) Tryd.func9 (by kernel_rfl) rfl rfl rfl tok mixed (by simp) fun C hC => ?_
  refine hC.vc [] 60 ?_
  simp [E.av, E.cells]
  refine hC.call [] (f12 Gl) (by simp) ?_
  refine hC.vc [] 60 ?_
  simp
  refine hC.call [] (f16 Gl e 300) (by simp [E.av, E.cells]) ?_
  refine hC.vc [] 60 ?_
  rcases light_neg e 300 with hl | hl
  · simp [hl]
  · have hl' : ¬ e.light 300 < 0 := by omega
    by_cases h30 : 30 < (w.length : Int)
    · simp [hl', h30]
    · simp [hl', h30]
      have hcnt := light_cnt e hs 300 (by omega) (by omega) hl
      refine hC.call [] (f25 Gl e hs (by omega)) (by simp [E.av, E.cells]) ?_
      obtain ⟨N, hN, hnext, hocc⟩ : ∃ N : List ByteArray, e.names = N ∧ (∀ (j : Nat) (h : j + 1 < N.length), Op.bytesLess (N[j + 1]).toList (N[j]).toList = false ∧ ¬ N[j + 1] = N[j]) ∧ (e.has w = true → e.right = true ∧ ∀ x ∈ w, x ∈ N) :=
        ⟨e.names, rfl, names_next e, has_occ⟩
      rw [hN]
      refine hC.vc [] 2 ?_
      simp
      refine go_cut (ι := Unit) (fun _ => ⟨[(1, rowAV w), (2, .ptr (.loc 2) 0), (6, rowAV N)], [(.loc 2, some (.box 25 e.cells))]⟩) (fun _ => ?_) (fun tail => ?_)
      · refine hC.vc [] 20 ?_
        simp [E.cells]
        refine hC.call [] (f20 Gl e hs w (by rw [show maxLen = 9223372036854775807 from rfl]; omega)) (by simp [E.av, E.cells]) ?_
        cases hh : e.has w with
        | false =>
          refine hC.vc [] 60 ?_
          simp
        | true =>
          obtain ⟨hr, hall⟩ := hocc hh
          refine hC.vc [] 15 ?_
          simp
          refine go_loop (ι := {i : Nat // i ≤ w.length}) (fun x => ⟨[(1, rowAV w), (2, .ptr (.loc 2) 0), (6, rowAV N), (8, vI x.1)], [(.loc 2, some (.box 25 e.cells))]⟩) (fun x => w.length - x.1) ⟨0, Nat.zero_le _⟩ [] (by simp [E.cells]) fun x ih => ?_
          obtain ⟨i, hi⟩ := x
          simp only at hi ih
          have hw1 := wr64 ((i : Int) + 1) (by omega)
          by_cases hlt : i < w.length
          · refine hC.vc [] 16 ?_
            simp [hlt]
            have hmem : w[i] ∈ N := hall _ (List.getElem_mem _)
            generalize hx : w[i] = x at hmem
            let mt : Nat → Bool := fun k => (N.take k).any fun s => decide (s = x)
            have hms : ∀ k (h : k < N.length), mt (k + 1) = (mt k || decide (N[k] = x)) := fun k h => by
              show ((N.take (k + 1)).any _) = _
              rw [List.take_add_one, List.getElem?_eq_getElem h, List.any_append]
              simp [mt]
            have hme : mt N.length = true := by
              show ((N.take N.length).any _) = true
              rw [List.take_length, List.any_eq_true]
              exact ⟨x, hmem, by simp⟩
            have hm0 : mt 0 = false := by simp [mt]
            refine go_cut (ι := Unit) (fun _ => ⟨[(1, rowAV w), (2, .ptr (.loc 2) 0), (6, rowAV N), (8, vI i), (9, vB true)], [(.loc 2, some (.box 25 e.cells))]⟩) (fun _ => ?_) (fun tail2 => ?_)
            · refine hC.vc [] 20 ?_
              simp
              exact go_to [] (ih ⟨i + 1, by omega⟩ (by simp; omega)) (by simp [hw1, E.cells])
            · refine hC.vc [] 10 ?_
              simp
              refine go_len 6 1 (N.map fun s => [.val (.string s)]) (by simp) fun hlen => ?_
              rw [List.length_map] at hlen
              refine go_loop (ι := {k : Nat // k ≤ N.length}) (fun y => ⟨[(1, rowAV w), (2, .ptr (.loc 2) 0), (6, rowAV N), (8, vI i), (9, vB (mt y.1)), (10, vI y.1)], [(.loc 2, some (.box 25 e.cells))]⟩) (fun y => N.length - y.1) ⟨0, Nat.zero_le _⟩ [] (by simp [E.cells, hm0]) fun y ih2 => ?_
              obtain ⟨k, hk⟩ := y
              simp only at hk ih2
              by_cases hkt : k < N.length
              · have hk1 := hms k hkt
                have hw4 := wr64 ((k : Int) + 1) (by omega)
                refine hC.vc [] 60 ?_
                cases hmk : mt k with
                | true =>
                  rw [hmk, Bool.true_or] at hk1
                  simp [hkt]
                  exact go_to [] (ih2 ⟨k + 1, by omega⟩ (by simp; omega)) (by simp [hw4, hk1, E.cells])
                | false =>
                  rw [hmk, Bool.false_or] at hk1
                  by_cases hkx : N[k] = x
                  · rw [decide_eq_true hkx] at hk1
                    simp [hkt, hlt, hx, hkx]
                    exact go_to [] (ih2 ⟨k + 1, by omega⟩ (by simp; omega)) (by simp [hw4, hk1, E.cells])
                  · rw [decide_eq_false hkx] at hk1
                    simp [hkt, hlt, hx, hkx]
                    exact go_to [] (ih2 ⟨k + 1, by omega⟩ (by simp; omega)) (by simp [hw4, hk1, E.cells])
              · have : k = N.length := by omega
                subst this
                rw [hme] at *
                refine hC.vc [] 10 ?_
                simp
                exact go_to [] (tail2 ()) (by simp [E.cells])
          · refine hC.vc [] 60 ?_
            simp [hlt, E.cells]
            refine hC.call [] (f18 Gl e hs) (by simp [E.av, E.cells]) ?_
            rw [hr]
            refine hC.vc [] 60 ?_
            simp
      · refine hC.vc [] 20 ?_
        simp
        refine go_len 6 1 (N.map fun s => [.val (.string s)]) (by simp) fun hlen => ?_
        rw [List.length_map] at hlen
        refine go_loop (ι := {j : Nat // j < N.length + 1}) (fun x => ⟨[(1, rowAV w), (2, .ptr (.loc 2) 0), (6, rowAV N), (7, vI ((x.1 : Int) + 1))], [(.loc 2, some (.box 25 e.cells))]⟩) (fun x => N.length - x.1) ⟨0, by omega⟩ [] (by simp [E.cells]) fun x ih => ?_
        obtain ⟨j, hj⟩ := x
        simp only at hj ih
        by_cases hlt : (j : Int) + 1 < (N.length : Int)
        · have hlt' : j + 1 < N.length := by omega
          have hlt2 : j < N.length := by omega
          obtain ⟨q1, q2⟩ := hnext j hlt'
          have hw1 := wr64 ((j : Int) + 1 + 1) (by omega)
          have hw2 := wr64 (j : Int) (by omega)
          refine hC.vc [] 60 ?_
          simp [hlt, hlt', hlt2, hw2, q1, q2]
          refine ⟨by omega, ?_⟩
          exact go_to [] (ih ⟨j + 1, by omega⟩ (by simp; omega)) (by simp [hw1, E.cells])
        · refine hC.vc [] 10 ?_
          simp [hlt]
          exact go_to [] (tail ()) (by simp [E.cells])
end Go.Proofs.D
