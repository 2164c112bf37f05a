/-
  THE LAW ExprBack.
-/
import Derived.Test.YtonomogpephfkaaDoorD20
import Derived.Test.YtonomogpephfkaaDoorD25
import Derived.Test.YtonomogpephfkaaDoorD9
import Derived.Test.YtonomogpephfkaaDoorL6
set_option linter.unusedVariables false
set_option linter.unusedSimpArgs false
namespace Go.Proofs.D
open Go Go.Abs
attribute [local simp] VC stepV stepTop stepReg stepOp stMove stPick stBin stUn stConv stBox stAlloc stLoad stStore stFieldAddr stField stExtract stNilCheck stMakeFunc stIndexAddr stIndex stLen
  stBuild placesOf fillA stBuildSlice sliceCells repL chunks allPV toPV drawOk drawOk.go mayMakeO mayMake1 disjoint pairOk Oper.apart Oper.looksAt Op.operands Call.operands Region.binds stAppend appBase appTail unName stSlice bndA
  LS.ev LS.get LS.blk LS.put LS.app LS.upd lkS lkH setS setH Nm.eqb guardOf nexts okPair dstOk AV.cellsOf takeAt putAt lkT sliceE fieldT intK isStrT isBoolT abin newOk LS.freshB LS.freshB.go LS.freshB.goH notIn AV.ments AV.ments.mentsL Blk.ments makes upsMents LS.start startL exitTo T Nat.blt
  conv convS convH srcs srcOf blkOk leA leA.leL leB leP laid laidM isArg subH retP resAV resL res1 AV.frz AV.frz.frzL evL AV.ren AV.ren.renL Blk.ren renBs blksOf allSome nodupB onlyArgs blksMents callUps keyed inName inName.go backName callSide
theorem parse_sound (s : ByteArray) : (parse s = (E.none, 2)) ∨ ((parse s).2 = 0 ∧ (parse s).1.right = true ∧ (parse s).1.text false = s) := by
  unfold parse
  split
  · rename_i h
    exact .inr ⟨rfl, h.2.2.1, h.2.2.2⟩
  · exact .inl rfl
theorem none_small : E.none.small := E.small_mk (by decide) (by simp)
theorem parse_small (s : ByteArray) (hs : s.size ≤ 1000000000) : (parse s).1.small ∧ (parse s).1.cnt ≤ 1000 := by
  have h0 : Ready 49 ⟨s, false, 0⟩ := ⟨rfl, by simp, by simp, by simp, hs⟩
  have hm := altN_made tl_size _ h0
  have a : ((altN tl ⟨s, false, 0⟩).1.cnt : Int) + 1 ≤ 4 * ((altN tl ⟨s, false, 0⟩).2.many - 0) := hm.cnt
  have b := hm.top
  unfold parse
  split
  · exact ⟨hm.small, by show (altN tl ⟨s, false, 0⟩).1.cnt ≤ 1000; omega⟩
  · exact ⟨none_small, by decide⟩
theorem sameL_refl : ∀ (n : Nat) (l : List E), (l.map E.cnt).sum ≤ n → sameL l l = true
  | _, [], _ => by simp [sameL]
  | 0, x :: l, h => by have := cnt_eq x; simp at h; omega
  | n + 1, .mk o m k :: l, h => by
    have hc := cnt_eq (.mk o m k)
    simp only [E.kids] at hc
    simp only [List.map_cons, List.sum_cons] at h
    simp only [sameL, decide_true, Bool.true_and, Bool.and_eq_true]
    exact ⟨sameL_refl n k (by omega), sameL_refl n l (by omega)⟩
theorem same_refl (e : E) : e.same e = true := sameL_refl _ [e] (Nat.le_refl _)
set_option maxRecDepth 20000 in
set_option maxHeartbeats 4000000 in
theorem f4 (Gl : Granted) (e : E) (hs : e.small) (s : ByteArray) (hsz : s.size ≤ 140737488355328) : Fun Tryd.prog Gl 4 [e.av, vS s] [] (vB true) [] := by
  refine fun_of (T := T) (n := 86) (rs := [.tmp 4]) Tryd.func4 (by kernel_rfl) rfl rfl rfl tok mixed (by simp) fun C hC => ?_
  refine hC.vc [] 60 ?_
  simp [E.av, E.cells]
  refine hC.call [] (f12 Gl) (by simp) ?_
  refine hC.vc [] 60 ?_
  simp
  refine hC.call [] (f16 Gl e 300) (by simp [E.av, E.cells]) ?_
  refine hC.vc [] 60 ?_
  rcases light_neg e 300 with hl | hl
  · simp [hl]
  · have hl' : ¬ e.light 300 < 0 := by omega
    by_cases h9 : 900 < (s.size : Int)
    · simp [hl', h9]
    · simp [hl', h9]
      have hcnt := light_cnt e hs 300 (by omega) (by omega) hl
      refine hC.call [] (f17 Gl e hs (by omega)) (by simp [E.av, E.cells]) ?_
      refine hC.vc [] 60 ?_
      obtain ⟨hps, hpc⟩ := parse_small s (by omega)
      have hsnd := parse_sound s
      -- what comes behind the first half
      have hprint : ∀ c : E, c.right = true → c.print = (c.text false, 0) := fun c h => by simp [E.print, h]
      simp
      refine hC.call [] (f18 Gl e hs) (by simp [E.av, E.cells]) ?_
      cases hr : e.right with
      | false =>
        have hp : e.print = (⟨#[]⟩, 2) := by simp [E.print, hr]
        rw [hp]
        refine hC.vc [] 60 ?_
        simp
        refine hC.call [] (f13 Gl s (by omega)) (by simp [E.av, E.cells]) ?_
        refine hC.vc [] 60 ?_
        rcases hsnd with hq | ⟨q1, q2, q3⟩
        · rw [hq]
          simp [E.none, E.av, E.cells, E.op, E.name, E.kids]
        · simp [q1, E.av, E.cells]
          refine hC.call [] (f17 Gl (parse s).1 hps (by omega)) (by simp [E.av, E.cells]) ?_
          rw [hprint _ q2, q3]
          refine hC.vc [] 60 ?_
          simp
      | true =>
        rw [hprint e hr]
        have htx : (e.text false).size ≤ 1000000000 := by
          have hok : e.ok = true := by simp [E.right] at hr; exact hr.2
          have := text_size e false hok
          omega
        refine hC.vc [] 60 ?_
        simp
        refine hC.call [] (f13 Gl (e.text false) htx) (by simp [E.av, E.cells]) ?_
        rw [parse_text e hr (by omega)]
        refine hC.vc [] 60 ?_
        simp [E.av, E.cells]
        refine hC.call [] (asE Gl e (by omega)) (by simp [E.av, E.cells]) ?_
        refine hC.vc [] 60 ?_
        simp [E.av, E.cells]
        refine hC.call [] (f15 Gl e e) (by simp [E.av, E.cells]) ?_
        rw [same_refl]
        refine hC.vc [] 60 ?_
        simp
        refine hC.call [] (f13 Gl s (by omega)) (by simp [E.av, E.cells]) ?_
        refine hC.vc [] 60 ?_
        rcases hsnd with hq | ⟨q1, q2, q3⟩
        · rw [hq]
          simp [E.none, E.av, E.cells, E.op, E.name, E.kids]
        · simp [q1, E.av, E.cells]
          refine hC.call [] (f17 Gl (parse s).1 hps (by omega)) (by simp [E.av, E.cells]) ?_
          rw [hprint _ q2, q3]
          refine hC.vc [] 60 ?_
          simp
end Go.Proofs.D
