/-
  THE LAW'S OWN FUNCTIONS: an expression as the reference has it.
-/
import Derived.Test.YtonomogpephfkaaDoorD2
import Derived.Test.YtonomogpephfkaaDoorD18
set_option linter.unusedVariables false
set_option linter.unusedSimpArgs false
namespace Go.Proofs.D
open Go Go.Abs
attribute [local simp] VC stepV stepTop stepReg stepOp stMove stPick stBin stUn stConv stBox stAlloc stLoad stStore stFieldAddr stField stExtract stNilCheck stMakeFunc stIndexAddr stIndex stLen
  stBuild placesOf fillA stBuildSlice sliceCells repL chunks allPV toPV drawOk drawOk.go mayMakeO mayMake1 disjoint pairOk Oper.apart Oper.looksAt Op.operands Call.operands Region.binds stAppend appBase appTail unName stSlice bndA
  LS.ev LS.get LS.blk LS.put LS.app LS.upd lkS lkH setS setH Nm.eqb guardOf nexts okPair dstOk AV.cellsOf takeAt putAt lkT sliceE fieldT intK isStrT isBoolT abin newOk LS.freshB LS.freshB.go LS.freshB.goH notIn AV.ments AV.ments.mentsL Blk.ments makes upsMents LS.start startL exitTo T Nat.blt
  conv convS convH srcs srcOf blkOk leA leA.leL leB leP laid laidM isArg subH retP resAV resL res1 AV.frz AV.frz.frzL evL AV.ren AV.ren.renL Blk.ren renBs blksOf allSome nodupB onlyArgs blksMents callUps keyed inName inName.go backName callSide
set_option maxRecDepth 20000 in
theorem f19 (Gl : Granted) (e : E) (hc : e.kids.length ≤ 1000000) (hk : ∀ k ∈ e.kids, Fun Tryd.prog Gl 19 [k.av] [] k.av []) : Fun Tryd.prog Gl 19 [e.av] [] e.av [] := by
  refine fun_of (T := T) (n := 29) (rs := [.cell 2 31]) Tryd.func19 (by kernel_rfl) rfl rfl rfl tok mixed (by simp) fun C hC => ?_
  refine hC.vc [] 60 ?_
  simp [E.av, E.cells]
  refine go_loop (ι := {i : Nat // i ≤ e.kids.length}) (fun x => ⟨[(1, .ptr (.loc 1) 0), (2, .ptr (.loc 2) 0), (3, .ptr (.loc 3) 0), (4, vI x.1)],
      [(.loc 1, some (.box 25 e.cells)), (.loc 2, some (.box 31 [.pv (.val (.int .u8 0)), .pv (.val (.string ⟨#[]⟩)), .pv (.nilS 3)])), (.loc 3, some (.box 31 [.pv (.val (.int .u8 e.op)), .pv (.val (.string e.name)), .own (.can 0)])), (.can 0, some (.row 31 3 ((e.kids.take x.1).map E.pv)))]⟩)
    (fun x => e.kids.length - x.1) ⟨0, Nat.zero_le _⟩ [(.can 0, .nil)] (by simp [E.cells]) fun x ih => ?_
  obtain ⟨i, hi⟩ := x
  simp only at hi ih
  have hw1 := wr64 ((i : Int) + 1) (by omega)
  refine hC.vc [] 60 ?_
  by_cases hlt : i < e.kids.length
  · simp [hlt, E.pv_eq, E.cells]
    refine hC.call [] (hk e.kids[i] (by simp)) (by simp [E.av, E.cells]) ?_
    refine hC.vc [] 60 ?_
    simp [E.av, E.cells]
    refine ⟨by omega, ?_⟩
    have htk : (e.kids.map E.pv).take (i + 1) = (e.kids.map E.pv).take i ++ [[.val (.int .u8 e.kids[i].op), .val (.string e.kids[i].name), .ro 3 (e.kids[i].kids.map E.pv)]] := by
      rw [List.take_add_one, List.getElem?_map, List.getElem?_eq_getElem hlt, Option.map_some, E.pv_eq e.kids[i]]
      rfl
    exact go_to [(.can 0, .nm (.loc 26))] (ih ⟨i + 1, hlt⟩ (by simp; omega)) (by simp [hw1, E.cells, htk])
  · simp [hlt, E.cells]
    have : (e.kids.map E.pv).take i = e.kids.map E.pv := List.take_of_length_le (by simp; omega)
    simp [this, E.av, E.cells]
end Go.Proofs.D
/-
  AN EXPRESSION AS THE REFERENCE HAS IT: of whatever size.
-/
set_option linter.unusedVariables false
set_option linter.unusedSimpArgs false
namespace Go.Proofs.D
open Go Go.Abs
theorem asE (Gl : Granted) (e : E) (hc : e.cnt ≤ 1000000) : Fun Tryd.prog Gl 19 [e.av] [] e.av [] :=
  f19 Gl e (by have := kids_le e; omega) fun k hk => asE Gl k (by have := cnt_kid hk; omega)
termination_by SizeOf.sizeOf e
decreasing_by exact E.kids_lt hk
end Go.Proofs.D
