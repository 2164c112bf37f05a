/-
  WHERE ONE MAY BE BEHIND AN EXPRESSION: once or more often.
-/
import Derived.Test.YtonomogpephfkaaDoorD11
import Derived.Test.YtonomogpephfkaaDoorL1
set_option linter.unusedVariables false
set_option linter.unusedSimpArgs false
namespace Go.Proofs.D
open Go Go.Abs
attribute [local simp] VC stepV stepTop stepReg stepOp stMove stPick stBin stUn stConv stBox stAlloc stLoad stStore stFieldAddr stField stExtract stNilCheck stMakeFunc stIndexAddr stIndex stLen
  stBuild placesOf fillA stBuildSlice sliceCells repL chunks allPV toPV drawOk drawOk.go mayMakeO mayMake1 disjoint pairOk Oper.apart Oper.looksAt Op.operands Call.operands Region.binds stAppend appBase appTail unName stSlice bndA
  LS.ev LS.get LS.blk LS.put LS.app LS.upd lkS lkH setS setH Nm.eqb guardOf nexts okPair dstOk AV.cellsOf takeAt putAt lkT sliceE fieldT intK isStrT isBoolT abin newOk LS.freshB LS.freshB.go LS.freshB.goH notIn AV.ments AV.ments.mentsL Blk.ments makes upsMents LS.start startL exitTo T Nat.blt
  conv convS convH srcs srcOf blkOk leA leA.leL leB leP laid laidM isArg subH retP resAV resL res1 AV.frz AV.frz.frzL evL AV.ren AV.ren.renL Blk.ren renBs blksOf allSome nodupB onlyArgs blksMents callUps keyed inName inName.go backName callSide
set_option maxRecDepth 20000 in
theorem f34_rep (Gl : Granted) (N : Nat) (hN : N + 1 < maxLen) (w : Row) (hw : w.length = N) (e : E) (hop : e.op = 42 ∨ e.op = 43) (k : E) (hkk : e.kids = [k]) (S : Nat → Prop) (hS : ∀ i, S i → i ≤ N)
    (hk : ∀ k ∈ e.kids, ∀ S, (∀ i, S i → i ≤ N) → Fun Tryd.prog Gl 34 [k.av, rowAV w, .rom (Q N S)] [] (.rom (Q N (stepP k.L w S))) []) :
    Fun Tryd.prog Gl 34 [e.av, rowAV w, .rom (Q N S)] [] (.rom (Q N (fun j => (e.op = 42 ∧ S j) ∨ stepP (Many k.L) w S j))) [] := by
  refine fun_of (T := T) (n := 120) (rs := [.tmp 6]) Tryd.func34 (by kernel_rfl) rfl rfl rfl tok mixed (by simp) fun C hC => ?_
  have hB : ∀ i, (e.op = 42 ∧ S i) → S i := fun i h => h.2
  rcases hop with hop | hop
  refine hC.vc [] 60 ?_
  simp [E.av, E.cells, hop, hkk]
  refine hC.makeSet 3 3 N (by rfl) (by rfl) (by simp) ?_
  refine hC.vc [] 60 ?_
  simp [hop]
  refine hC.call [.loc 7, .loc 16] (f62 Gl N hN (fun _ => False) S) (by simp) ?_
  refine hC.vc [] 60 ?_
  simp [E.pv_eq k]
  refine hC.call [] (hk k (by simp [hkk]) S hS) (by simp [E.av, E.cells]) ?_
  refine hC.vc [] 60 ?_
  simp
  rotate_left
  refine hC.vc [] 60 ?_
  simp [E.av, E.cells, hop, hkk]
  refine hC.makeSet 3 3 N (by rfl) (by rfl) (by simp) ?_
  refine hC.vc [] 60 ?_
  simp [hop, E.pv_eq k]
  refine hC.call [] (hk k (by simp [hkk]) S hS) (by simp [E.av, E.cells]) ?_
  refine hC.vc [] 60 ?_
  simp
  all_goals
    refine go_loop (ι := {x : (Nat → Prop) × (Nat → Prop) // Rounds k.L w S (fun i => e.op = 42 ∧ S i) x.1 x.2 ∧ (∀ i, x.2 i → i ≤ N)})
      (fun x => ⟨[(1, rowAV w), (3, .ptr (.loc 3) 0), (7, .ptr (.loc 7) 0), (8, .fn (.func 62) [] [.ptr (.loc 7) 0]), (14, .rom (Q N x.1.2))],
        [(.loc 3, some (.box 25 e.cells)), (.loc 16, some (.raw (Q N x.1.1))), (.loc 7, some (.box 66 [.hmap (.loc 16)]))]⟩)
      (fun x => N + 1 - cardN N x.1.1) ⟨(fun i => e.op = 42 ∧ S i, stepP k.L w S), rounds_start hB, fun i hi => hw ▸ hi.1⟩ [] (by
        simp [E.cells, hop, hkk, E.pv_eq k] <;> exact setQ_mono fun i => by simp [hop]) fun x ih => ?_
    obtain ⟨⟨O, X⟩, hR, hX⟩ := x
    simp only at ih hR hX
    refine hC.vc [] 60 ?_
    simp
    refine hC.setLen im66 (.loc 16) (N := N) (S := O) (by rfl) (by simp) ?_
    refine hC.vc [] 60 ?_
    simp
    refine hC.call [.loc 7, .loc 16] (f62 Gl N hN O X) (by simp) ?_
    refine hC.vc [] 60 ?_
    simp
    refine hC.setLen im66 (.loc 16) (N := N) (S := fun i => O i ∨ X i) (by rfl) (by simp) ?_
    refine hC.vc [] 60 ?_
    by_cases hc : cardN N (fun i => O i ∨ X i) = cardN N O
    · simp [hc]
      refine setQ_congr fun j => ?_
      have hx : ∀ i, X i → O i := fun i hi => cardN_eq (fun i h => .inl h) hc i (hX i hi) (.inr hi)
      have hend := rounds_end hR hx j
      have hj : (O j ∨ X j) ↔ O j := ⟨fun h => h.elim id (hx j), .inl⟩
      rw [hj]
      exact hend
    · have hc' : ¬ ((cardN N (fun i => O i ∨ X i) : Nat) : Int) = (cardN N O : Nat) := fun h => hc (by omega)
      simp [hc', E.cells, hkk, E.pv_eq k]
      refine hC.call [] (hk k (by simp [hkk]) X hX) (by simp [E.av, E.cells]) ?_
      refine hC.vc [] 60 ?_
      simp
      have h1 : cardN N O ≤ cardN N (fun i => O i ∨ X i) := cardN_mono fun i h => .inl h
      have h2 := cardN_le N (fun i => O i ∨ X i)
      exact go_to [] (ih ⟨(fun i => O i ∨ X i, stepP k.L w X), rounds_step hR, fun i hi => hw ▸ hi.1⟩ (by simp; omega)) (by simp [E.cells, hkk, E.pv_eq k])
end Go.Proofs.D
