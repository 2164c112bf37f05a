/-
  WHERE ONE MAY BE BEHIND AN EXPRESSION: one of several.
-/
import Derived.Test.YtonomogpephfkaaDoorD11
import Derived.Test.YtonomogpephfkaaDoorL1
set_option linter.unusedVariables false
set_option linter.unusedSimpArgs false
namespace Go.Proofs.D
open Go Go.Abs
attribute [local simp] VC stepV stepTop stepReg stepOp stMove stPick stBin stUn stConv stBox stAlloc stLoad stStore stFieldAddr stField stExtract stNilCheck stMakeFunc stIndexAddr stIndex stLen
  stBuild placesOf fillA stBuildSlice sliceCells repL chunks allPV toPV drawOk drawOk.go mayMakeO mayMake1 disjoint pairOk Oper.apart Oper.looksAt Op.operands Call.operands Region.binds stAppend appBase appTail unName stSlice bndA
  LS.ev LS.get LS.blk LS.put LS.app LS.upd lkS lkH setS setH Nm.eqb guardOf nexts okPair dstOk AV.cellsOf takeAt putAt lkT sliceE fieldT intK isStrT isBoolT abin newOk LS.freshB LS.freshB.go LS.freshB.goH notIn AV.ments AV.ments.mentsL Blk.ments makes upsMents LS.start startL exitTo T Nat.blt
  conv convS convH srcs srcOf blkOk leA leA.leL leB leP laid laidM isArg subH retP resAV resL res1 AV.frz AV.frz.frzL evL AV.ren AV.ren.renL Blk.ren renBs blksOf allSome nodupB onlyArgs blksMents callUps keyed inName inName.go backName callSide
set_option maxRecDepth 20000 in
theorem f34_alt (Gl : Granted) (N : Nat) (hN : N + 1 < maxLen) (w : Row) (hw : w.length = N) (e : E) (hop : e.op = 97) (S : Nat → Prop) (hS : ∀ i, S i → i ≤ N)
    (hk : ∀ k ∈ e.kids, ∀ S, (∀ i, S i → i ≤ N) → Fun Tryd.prog Gl 34 [k.av, rowAV w, .rom (Q N S)] [] (.rom (Q N (stepP k.L w S))) []) :
    Fun Tryd.prog Gl 34 [e.av, rowAV w, .rom (Q N S)] [] (.rom (Q N (stepP (E.L.altL e.kids) w S))) [] := by
  refine fun_of (T := T) (n := 120) (rs := [.tmp 6]) Tryd.func34 (by kernel_rfl) rfl rfl rfl tok mixed (by simp) fun C hC => ?_
  refine hC.vc [] 60 ?_
  simp [E.av, E.cells, hop]
  refine hC.makeSet 3 3 N (by rfl) (by rfl) (by simp) ?_
  refine hC.vc [] 60 ?_
  simp [hop]
  refine go_len 92 3 (e.kids.map E.pv) (by simp) fun hlen => ?_
  rw [List.length_map] at hlen
  refine go_loop (ι := {x : Nat × (Nat → Prop) // x.1 ≤ e.kids.length ∧ ∀ j, stepP (E.L.altL e.kids) w S j ↔ x.2 j ∨ stepP (E.L.altL (e.kids.drop x.1)) w S j})
    (fun x => ⟨[(1, rowAV w), (2, .rom (Q N S)), (3, .ptr (.loc 3) 0), (7, .ptr (.loc 7) 0), (8, .fn (.func 62) [] [.ptr (.loc 7) 0]), (92, .pv (.ro 3 (e.kids.map E.pv))), (93, vI e.kids.length), (94, vI x.1.1)],
      [(.loc 3, some (.box 25 e.cells)), (.loc 16, some (.raw (Q N x.1.2))), (.loc 7, some (.box 66 [.hmap (.loc 16)]))]⟩)
    (fun x => e.kids.length - x.1.1) ⟨(0, fun _ => False), by simp⟩ [] (by simp [E.cells, hop]) fun x ih => ?_
  obtain ⟨⟨i, O⟩, hi, hn⟩ := x
  simp only at ih hi hn
  refine hC.vc [] 60 ?_
  by_cases hlt : i < e.kids.length
  · rw [List.drop_eq_getElem_cons hlt] at hn
    simp [hlt, E.pv_eq, E.cells]
    refine hC.call [] (hk e.kids[i] (by simp) S hS) (by simp [E.av, E.cells]) ?_
    refine hC.vc [] 60 ?_
    simp
    refine hC.call [.loc 7, .loc 16] (f62 Gl N hN O (stepP e.kids[i].L w S)) (by simp) ?_
    refine hC.vc [] 60 ?_
    simp
    have hw1 := wr64 ((i : Int) + 1) (by omega)
    refine go_to [] (ih ⟨(i + 1, fun j => O j ∨ stepP e.kids[i].L w S j), hlt, fun j => ?_⟩ (by simp; omega)) (by simp [hw1, E.cells])
    rw [hn j, or_assoc]
    exact or_congr Iff.rfl (stepP_or _ _ _ _ j)
  · simp [hlt]
    refine setQ_congr fun j => ?_
    rw [hn j, List.drop_eq_nil_of_le (by omega)]
    exact ⟨.inl, fun h => h.elim id fun ⟨_, _, _, _, h⟩ => h.elim⟩
end Go.Proofs.D
