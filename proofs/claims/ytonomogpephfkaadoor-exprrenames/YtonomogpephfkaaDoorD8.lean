/-
  THE LAW'S OWN FUNCTIONS: are two expressions one?
-/
import Derived.Test.YtonomogpephfkaaDoorD2
set_option linter.unusedVariables false
set_option linter.unusedSimpArgs false
namespace Go.Proofs.D
open Go Go.Abs
attribute [local simp] VC stepV stepTop stepReg stepOp stMove stPick stBin stUn stConv stBox stAlloc stLoad stStore stFieldAddr stField stExtract stNilCheck stMakeFunc stIndexAddr stIndex stLen
  stBuild placesOf fillA stBuildSlice sliceCells repL chunks allPV toPV drawOk drawOk.go mayMakeO mayMake1 disjoint pairOk Oper.apart Oper.looksAt Op.operands Call.operands Region.binds stAppend appBase appTail unName stSlice bndA
  LS.ev LS.get LS.blk LS.put LS.app LS.upd lkS lkH setS setH Nm.eqb guardOf nexts okPair dstOk AV.cellsOf takeAt putAt lkT sliceE fieldT intK isStrT isBoolT abin newOk LS.freshB LS.freshB.go LS.freshB.goH notIn AV.ments AV.ments.mentsL Blk.ments makes upsMents LS.start startL exitTo T Nat.blt
  conv convS convH srcs srcOf blkOk leA leA.leL leB leP laid laidM isArg subH retP resAV resL res1 AV.frz AV.frz.frzL evL AV.ren AV.ren.renL Blk.ren renBs blksOf allSome nodupB onlyArgs blksMents callUps keyed inName inName.go backName callSide
def sameL : List E → List E → Bool
  | [], [] => true
  | .mk o n k :: l, .mk o' n' k' :: l' => decide (o = o') && decide (n = n') && sameL k k' && sameL l l'
  | _, _ => false
def E.same (a b : E) : Bool := sameL [a] [b]
theorem same_eq (a b : E) : a.same b = (decide (a.op = b.op) && decide (a.name = b.name) && sameL a.kids b.kids) := by
  obtain ⟨o, n, k⟩ := a
  obtain ⟨o', n', k'⟩ := b
  simp only [E.same, sameL, Bool.and_true]
  rfl
theorem sameL_cons (x y : E) (l m : List E) : sameL (x :: l) (y :: m) = (x.same y && sameL l m) := by
  obtain ⟨o, n, k⟩ := x
  obtain ⟨o', n', k'⟩ := y
  simp [E.same, sameL]
theorem sameL_len : ∀ (l m : List E), ¬ (l.length : Int) = m.length → sameL l m = false
  | [], [], h => by simp at h
  | [], y :: m, _ => by simp [sameL]
  | x :: l, [], _ => by obtain ⟨o, n, k⟩ := x; simp [sameL]
  | x :: l, y :: m, h => by rw [sameL_cons, sameL_len l m (by simp at h; omega)]; simp
set_option maxRecDepth 20000 in
theorem f15 (Gl : Granted) (a b : E) : Fun Tryd.prog Gl 15 [a.av, b.av] [] (vB (a.same b)) [] := by
  refine fun_of (T := T) (n := 46) (rs := [.tmp 4]) Tryd.func15 (by kernel_rfl) rfl rfl rfl tok mixed (by simp) fun C hC => ?_
  by_cases h1 : a.op = b.op
  · by_cases h2 : a.name = b.name
    · by_cases h3 : (a.kids.length : Int) = b.kids.length
      · have hsm : a.same b = sameL a.kids b.kids := by simp [same_eq, h1, h2]
        have h3' : a.kids.length = b.kids.length := by omega
        refine hC.vc [] 100 ?_
        simp [E.av, E.cells, h1, h2, h3]
        refine go_len 20 3 (a.kids.map E.pv) (by simp) fun hk => ?_
        rw [List.length_map] at hk
        refine go_loop (ι := {i : Nat // i ≤ a.kids.length ∧ a.same b = sameL (a.kids.drop i) (b.kids.drop i)}) (fun x => ⟨[(2, .ptr (.loc 2) 0), (3, .ptr (.loc 3) 0), (4, vB false), (5, vI x.1)], [(.loc 2, some (.box 25 [.pv (.val (.int .u8 b.op)), .pv (.val (.string b.name)), .pv (.ro 3 (a.kids.map E.pv))])), (.loc 3, some (.box 31 [.pv (.val (.int .u8 b.op)), .pv (.val (.string b.name)), .pv (.ro 3 (b.kids.map E.pv))]))]⟩)
          (fun x => a.kids.length - x.1) ⟨0, by simp [hsm]⟩ [] (by simp) fun x ih => ?_
        obtain ⟨i, hi, hn⟩ := x
        simp only at hi hn ih
        refine hC.vc [] 60 ?_
        simp [h3']
        by_cases hlt : i < b.kids.length
        · have hlt' : i < a.kids.length := by omega
          rw [List.drop_eq_getElem_cons hlt', List.drop_eq_getElem_cons hlt, sameL_cons] at hn
          simp [hlt, hlt', E.pv_eq]
          refine hC.call [] (f15 Gl a.kids[i] b.kids[i]) (by simp [E.av, E.cells]) ?_
          refine hC.vc [] 60 ?_
          cases hs : a.kids[i].same b.kids[i]
          · simp [hn, hs]
          · simp
            have hw := wr64 ((i : Int) + 1) (by omega)
            rw [hs, Bool.true_and] at hn
            exact go_to [] (ih ⟨i + 1, hlt', hn⟩ (by simp; omega)) (by simp [hw])
        · simp [hlt]
          rw [hn, List.drop_eq_nil_of_le (by omega), List.drop_eq_nil_of_le (by omega)]
          simp [sameL]
      · refine hC.vc [] 100 ?_
        simp [E.av, E.cells, h1, h2, h3, same_eq, sameL_len _ _ h3]
    · refine hC.vc [] 100 ?_
      simp [E.av, E.cells, h1, h2, same_eq]
  · refine hC.vc [] 100 ?_
    simp [E.av, E.cells, h1, same_eq]
termination_by SizeOf.sizeOf a
decreasing_by exact E.kids_lt (by simp)
end Go.Proofs.D
