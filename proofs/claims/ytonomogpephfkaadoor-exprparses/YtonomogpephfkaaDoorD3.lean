/-
  EXPRESSIONS: formed, right.
-/
import Derived.Test.YtonomogpephfkaaDoorDN
set_option linter.unusedVariables false
set_option linter.unusedSimpArgs false
namespace Go.Proofs.D
open Go Go.Abs
attribute [local simp] VC stepV stepTop stepReg stepOp stMove stPick stBin stUn stConv stBox stAlloc stLoad stStore stFieldAddr stField stExtract stNilCheck stMakeFunc stIndexAddr stIndex stLen
  stBuild placesOf fillA stBuildSlice sliceCells repL chunks allPV toPV drawOk drawOk.go mayMakeO mayMake1 disjoint pairOk Oper.apart Oper.looksAt Op.operands Call.operands Region.binds stAppend appBase appTail unName stSlice bndA
  LS.ev LS.get LS.blk LS.put LS.app LS.upd lkS lkH setS setH Nm.eqb guardOf nexts okPair dstOk AV.cellsOf takeAt putAt lkT sliceE fieldT intK isStrT isBoolT abin newOk LS.freshB LS.freshB.go LS.freshB.goH notIn AV.ments AV.ments.mentsL Blk.ments makes upsMents LS.start startL exitTo T Nat.blt
  conv convS convH srcs srcOf blkOk leA leA.leL leB leP laid laidM isArg subH retP resAV resL res1 AV.frz AV.frz.frzL evL AV.ren AV.ren.renL Blk.ren renBs blksOf allSome nodupB onlyArgs blksMents callUps keyed inName inName.go backName callSide
theorem any_attach (f : E → Bool) (l : List E) : (l.attach.any fun k => f k.1) = l.any f := by
  have := List.any_map (l := l.attach) (f := Subtype.val) (p := f)
  rw [List.attach_map_subtype_val] at this
  exact this.symm
theorem E.ok_eq (e : E) : e.ok = if e.op = 110 then decide (e.kids.length = 0) && (isName e.name || decide (e.name = ⟨#[116, 101, 120, 116]⟩))
    else (decide (e.name = ⟨#[]⟩) && (if e.op = 115 then !decide ((e.kids.length : Int) = 1) else if e.op = 97 then decide (1 < (e.kids.length : Int)) else decide (e.op = 42 ∨ e.op = 43 ∨ e.op = 63) && decide ((e.kids.length : Int) = 1) && !(e.kids.any E.suffix)))
      && !(e.kids.any fun k => decide (k.op = e.op) || !k.ok) := by
  obtain ⟨op, name, kids⟩ := e
  rw [E.ok, any_attach fun k => decide (k.op = op) || !k.ok]
  rfl
set_option maxRecDepth 20000 in
set_option maxHeartbeats 1000000 in
theorem f33 (Gl : Granted) (e : E) (hs : e.small) : Fun Tryd.prog Gl 33 [e.av] [] (vB e.ok) [] := by
  have hcl : ∀ x ∈ e.kids, Fun Tryd.prog Gl 60 [x.av, .ptr (.arg 0) 0] [some (.box 25 e.cells)] (vB (decide (x.op = e.op) || !x.ok)) [some (.box 25 e.cells)] := fun x hx => f60 Gl x e (f33 Gl x (E.small_kids hs x hx))
  refine fun_of (T := T) (n := 72) (rs := [.tmp 2]) Tryd.func33 (by kernel_rfl) rfl rfl rfl tok mixed (by simp) fun C hC => ?_
  by_cases a : e.op = 110
  · by_cases hk : e.kids = []
    · refine hC.vc [] 200 ?_
      simp [E.av, E.cells, a, hk]
      refine hC.call [] (f58 Gl e.name (E.small_name hs)) (by simp) ?_
      refine hC.vc [] 200 ?_
      cases hn : isName e.name <;> simp [E.ok_eq e, a, hk, hn]
    · refine hC.vc [] 200 ?_
      simp [E.av, E.cells, a, hk, E.ok_eq e]
  · by_cases b : e.op = 115
    · skip
      by_cases hn : e.name = ⟨#[]⟩
      · by_cases hl : (e.kids.length : Int) = 1
        · skip
          refine hC.vc [] 200 ?_
          simp [E.av, E.cells, b, hn, hl, E.ok_eq e]
        · skip
          refine hC.vc [] 200 ?_
          simp [E.av, E.cells, b, hn, hl]
          refine hC.call [.loc 1] (f61 Gl e.kids e _ hcl) (by simp [E.cells, b, hn, hl]) ?_
          refine hC.vc [] 200 ?_
          simp [E.ok_eq e, b, hn, hl]
      · skip
        refine hC.vc [] 200 ?_
        simp [E.av, E.cells, b, hn, E.ok_eq e]
    · by_cases c : e.op = 97
      · skip
        by_cases hn : e.name = ⟨#[]⟩
        · by_cases hl : 1 < (e.kids.length : Int)
          · skip
            refine hC.vc [] 200 ?_
            simp [E.av, E.cells, c, hn, hl]
            refine hC.call [.loc 1] (f61 Gl e.kids e _ hcl) (by simp [E.cells, c, hn, hl]) ?_
            refine hC.vc [] 200 ?_
            simp [E.ok_eq e, c, hn, hl]
          · skip
            refine hC.vc [] 200 ?_
            simp [E.av, E.cells, c, hn, hl, E.ok_eq e]
        · skip
          refine hC.vc [] 200 ?_
          simp [E.av, E.cells, c, hn, E.ok_eq e]
      · by_cases hs : e.op = 42 ∨ e.op = 43 ∨ e.op = 63
        · by_cases hn : e.name = ⟨#[]⟩
          · by_cases hl : (e.kids.length : Int) = 1
            · obtain ⟨k, hk⟩ : ∃ k, e.kids = [k] := List.length_eq_one_iff.1 (by omega)
              rw [hk] at hcl
              rcases hs with d | d | d
              · refine hC.vc [] 200 ?_
                simp [E.av, E.cells, d, hn, hk, E.pv_eq k]
                refine hC.call [] (f59 Gl k) (by simp [E.av, E.cells]) ?_
                refine hC.vc [] 200 ?_
                cases hsx : k.suffix
                · simp [E.pv_eq k]
                  refine hC.call [.loc 1] (f61 Gl [k] e _ hcl) (by simp [E.cells, d, hn, hk, E.pv_eq k]) ?_
                  refine hC.vc [] 200 ?_
                  simp [E.ok_eq e, d, hn, hk, hsx]
                · simp [E.ok_eq e, d, hn, hk, hsx]
              · refine hC.vc [] 200 ?_
                simp [E.av, E.cells, d, hn, hk, E.pv_eq k]
                refine hC.call [] (f59 Gl k) (by simp [E.av, E.cells]) ?_
                refine hC.vc [] 200 ?_
                cases hsx : k.suffix
                · simp [E.pv_eq k]
                  refine hC.call [.loc 1] (f61 Gl [k] e _ hcl) (by simp [E.cells, d, hn, hk, E.pv_eq k]) ?_
                  refine hC.vc [] 200 ?_
                  simp [E.ok_eq e, d, hn, hk, hsx]
                · simp [E.ok_eq e, d, hn, hk, hsx]
              · refine hC.vc [] 200 ?_
                simp [E.av, E.cells, d, hn, hk, E.pv_eq k]
                refine hC.call [] (f59 Gl k) (by simp [E.av, E.cells]) ?_
                refine hC.vc [] 200 ?_
                cases hsx : k.suffix
                · simp [E.pv_eq k]
                  refine hC.call [.loc 1] (f61 Gl [k] e _ hcl) (by simp [E.cells, d, hn, hk, E.pv_eq k]) ?_
                  refine hC.vc [] 200 ?_
                  simp [E.ok_eq e, d, hn, hk, hsx]
                · simp [E.ok_eq e, d, hn, hk, hsx]
            · rcases hs with d | d | d <;>
                (refine hC.vc [] 200 ?_; simp [E.av, E.cells, d, hn, hl, E.ok_eq e])
          · rcases hs with d | d | d <;>
              (refine hC.vc [] 200 ?_; simp [E.av, E.cells, d, hn, E.ok_eq e])
        · have d1 : ¬ e.op = 42 := fun h => hs (.inl h)
          have d2 : ¬ e.op = 43 := fun h => hs (.inr (.inl h))
          have d3 : ¬ e.op = 63 := fun h => hs (.inr (.inr h))
          refine hC.vc [] 200 ?_
          simp [E.av, E.cells, a, b, c, d1, d2, d3, E.ok_eq e]
termination_by SizeOf.sizeOf e
decreasing_by exact E.kids_lt hx
end Go.Proofs.D
