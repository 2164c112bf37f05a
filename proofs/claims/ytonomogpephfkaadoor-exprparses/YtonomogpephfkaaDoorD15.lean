/-
  WHERE ONE MAY BE BEHIND AN EXPRESSION.
-/
import Derived.Test.YtonomogpephfkaaDoorD11
import Derived.Test.YtonomogpephfkaaDoorL1
set_option linter.unusedVariables false
set_option linter.unusedSimpArgs false
namespace Go.Proofs.D
open Go Go.Abs
attribute [local simp] VC stepV stepTop stepReg stepOp stMove stPick stBin stUn stConv stBox stAlloc stLoad stStore stFieldAddr stField stExtract stNilCheck stMakeFunc stIndexAddr stIndex stLen
  stBuild placesOf fillA stBuildSlice sliceCells repL chunks allPV toPV drawOk drawOk.go mayMakeO mayMake1 disjoint pairOk Oper.apart Oper.looksAt Op.operands Call.operands Region.binds stAppend appBase appTail unName stSlice bndA
  LS.ev LS.get LS.blk LS.put LS.app LS.upd lkS lkH setS setH Nm.eqb guardOf nexts okPair dstOk AV.cellsOf takeAt putAt lkT sliceE fieldT intK isStrT isBoolT abin newOk LS.freshB LS.freshB.go LS.freshB.goH notIn AV.ments AV.ments.mentsL Blk.ments makes upsMents LS.start startL exitTo T Nat.blt
  conv convS convH srcs srcOf blkOk leA leA.leL leB leP laid laidM isArg subH retP resAV resL res1 AV.frz AV.frz.frzL evL AV.ren AV.ren.renL Blk.ren renBs blksOf allSome nodupB onlyArgs blksMents callUps keyed inName inName.go backName callSide
set_option maxRecDepth 20000 in
theorem f34_name (Gl : Granted) (N : Nat) (hN : N + 1 < maxLen) (w : Row) (hw : w.length = N) (e : E) (hop : e.op = 110) (S : Nat → Prop) :
    Fun Tryd.prog Gl 34 [e.av, rowAV w, .rom (Q N S)] [] (.rom (Q N (stepP (fun v => v = [e.name]) w S))) [] := by
  refine fun_of (T := T) (n := 120) (rs := [.tmp 6]) Tryd.func34 (by kernel_rfl) rfl rfl rfl tok mixed (by simp) fun C hC => ?_
  refine hC.vc [] 60 ?_
  simp [E.av, E.cells, hop]
  refine hC.makeSet 3 3 N (by rfl) (by rfl) (by simp) ?_
  refine hC.vc [] 60 ?_
  simp [hop]
  refine hC.setRange im66 (N := N) (S := S) (by rfl) (by rfl) (by simp) ?_
  refine hC.vc [] 60 ?_
  simp
  refine go_len 1 1 (w.map fun s => [.val (.string s)]) (by simp) fun hlen => ?_
  rw [List.length_map] at hlen
  refine go_loop (ι := {x : (Nat → Prop) × Option Nat // ∀ i, x.1 i → S i}) (fun x => ⟨[(1, rowAV w), (3, .ptr (.loc 3) 0), (7, .ptr (.loc 7) 0), (53, .ptr (.loc 53) 0)],
      [(.loc 3, some (.box 25 e.cells)), (.loc 16, some (.raw (Q N fun i => ∃ k, x.1.1 k ∧ i = k + 1 ∧ w[k]? = some e.name))), (.loc 7, some (.box 66 [.hmap (.loc 16)])), (.loc 53, some (.iter (iterS Tryd.prog 3 3 N S x.1.1 x.1.2)))]⟩)
    (fun x => cardN N fun i => S i ∧ ¬ x.1.1 i) ⟨(fun _ => False, none), fun _ h => h.elim⟩ [] (by simp [E.cells, hop]) fun x ih => ?_
  obtain ⟨⟨M, last⟩, hM⟩ := x
  simp only at ih hM
  refine hC.vc [] 60 ?_
  simp
  refine hC.setNext im66 (.loc 53) (N := N) (S := S) (M := M) (last := last) (by rfl) (by simp) (fun hall => ?_) (fun j h1 h2 h3 => ?_)
  · refine hC.vc [] 60 ?_
    simp
    have : M = S := funext fun i => propext ⟨hM i, hall i⟩
    subst this
    refine setQ_congr fun j => ?_
    exact (stepP_name _ _ _ _).symm
  · refine hC.vc [] 60 ?_
    simp
    refine hC.setEntry (.loc 53) (N := N) (S := S) (k := 3) (e := 3) (j := j) (M := fun i => M i ∨ i = j) (by rfl) (by simp) ?_
    refine hC.vc [] 60 ?_
    have hIM : ∀ i, (M i ∨ i = j) → S i := fun i hi => by
      rcases hi with hi | rfl
      · exact hM i hi
      · exact h1
    have hlt : (cardN N fun i => S i ∧ ¬(M i ∨ i = j)) < cardN N fun i => S i ∧ ¬M i := cardN_lt (fun i ⟨a1, a2⟩ => ⟨a1, fun h => a2 (.inl h)⟩) j h3 ⟨h1, h2⟩ (fun ⟨_, a2⟩ => a2 (.inr rfl))
    by_cases hj : j < w.length
    · by_cases hn : w[j] = e.name
      · simp [hj, hn, E.cells]
        have hw1 := wr64 ((j : Int) + 1) (by omega)
        refine hC.setPut im66 (.loc 16) (j := j + 1) (S := fun i => ∃ k, M k ∧ i = k + 1 ∧ w[k]? = some e.name) hN (by omega) (.inl (by rfl)) (by simp [hw1]) ?_
        refine hC.vc [] 60 ?_
        simp
        refine go_to [] (ih ⟨(fun i => M i ∨ i = j, some j), hIM⟩ hlt) ?_
        simp [E.cells]
        refine setQ_mono fun i => ?_
        constructor
        · rintro (⟨k, a1, a2, a3⟩ | rfl)
          · exact .inl ⟨k, a1, a2, a3⟩
          · exact .inr ⟨rfl, by rw [List.getElem?_eq_getElem hj, hn]⟩
        · rintro (⟨k, a1, a2, a3⟩ | ⟨a2, a3⟩)
          · exact .inl ⟨k, a1, a2, a3⟩
          · exact .inr a2
      · simp [hj, hn, E.cells]
        refine go_to [] (ih ⟨(fun i => M i ∨ i = j, some j), hIM⟩ hlt) ?_
        simp [E.cells]
        refine setQ_mono fun i => ?_
        constructor
        · rintro ⟨k, a1, a2, a3⟩
          exact .inl ⟨k, a1, a2, a3⟩
        · rintro (⟨k, a1, a2, a3⟩ | ⟨a2, a3⟩)
          · exact ⟨k, a1, a2, a3⟩
          · rw [List.getElem?_eq_getElem hj] at a3
            exact absurd (Option.some.inj a3) hn
    · simp [hj, E.cells]
      refine go_to [] (ih ⟨(fun i => M i ∨ i = j, some j), hIM⟩ hlt) ?_
      simp [E.cells]
      refine setQ_mono fun i => ?_
      constructor
      · rintro ⟨k, a1, a2, a3⟩
        exact .inl ⟨k, a1, a2, a3⟩
      · rintro (⟨k, a1, a2, a3⟩ | ⟨a2, a3⟩)
        · exact ⟨k, a1, a2, a3⟩
        · rw [List.getElem?_eq_none (by omega)] at a3
          cases a3
end Go.Proofs.D
/-
  WHERE ONE MAY BE BEHIND AN EXPRESSION: a sequence.
-/
set_option linter.unusedVariables false
set_option linter.unusedSimpArgs false
namespace Go.Proofs.D
open Go Go.Abs
attribute [local simp] VC stepV stepTop stepReg stepOp stMove stPick stBin stUn stConv stBox stAlloc stLoad stStore stFieldAddr stField stExtract stNilCheck stMakeFunc stIndexAddr stIndex stLen
  stBuild placesOf fillA stBuildSlice sliceCells repL chunks allPV toPV drawOk drawOk.go mayMakeO mayMake1 disjoint pairOk Oper.apart Oper.looksAt Op.operands Call.operands Region.binds stAppend appBase appTail unName stSlice bndA
  LS.ev LS.get LS.blk LS.put LS.app LS.upd lkS lkH setS setH Nm.eqb guardOf nexts okPair dstOk AV.cellsOf takeAt putAt lkT sliceE fieldT intK isStrT isBoolT abin newOk LS.freshB LS.freshB.go LS.freshB.goH notIn AV.ments AV.ments.mentsL Blk.ments makes upsMents LS.start startL exitTo T Nat.blt
  conv convS convH srcs srcOf blkOk leA leA.leL leB leP laid laidM isArg subH retP resAV resL res1 AV.frz AV.frz.frzL evL AV.ren AV.ren.renL Blk.ren renBs blksOf allSome nodupB onlyArgs blksMents callUps keyed inName inName.go backName callSide
set_option maxRecDepth 20000 in
theorem f34_seq (Gl : Granted) (N : Nat) (hN : N + 1 < maxLen) (w : Row) (hw : w.length = N) (e : E) (hop : e.op = 115) (S : Nat → Prop) (hS : ∀ i, S i → i ≤ N)
    (hk : ∀ k ∈ e.kids, ∀ S, (∀ i, S i → i ≤ N) → Fun Tryd.prog Gl 34 [k.av, rowAV w, .rom (Q N S)] [] (.rom (Q N (stepP k.L w S))) []) :
    Fun Tryd.prog Gl 34 [e.av, rowAV w, .rom (Q N S)] [] (.rom (Q N (stepP (E.L.seqL e.kids) w S))) [] := by
  refine fun_of (T := T) (n := 120) (rs := [.tmp 6]) Tryd.func34 (by kernel_rfl) rfl rfl rfl tok mixed (by simp) fun C hC => ?_
  refine hC.vc [] 60 ?_
  simp [E.av, E.cells, hop]
  refine hC.makeSet 3 3 N (by rfl) (by rfl) (by simp) ?_
  refine hC.vc [] 60 ?_
  simp [hop]
  refine go_len 78 3 (e.kids.map E.pv) (by simp) fun hlen => ?_
  rw [List.length_map] at hlen
  refine go_loop (ι := {x : Nat × (Nat → Prop) // x.1 ≤ e.kids.length ∧ (∀ i, x.2 i → i ≤ N) ∧ stepP (E.L.seqL e.kids) w S = stepP (E.L.seqL (e.kids.drop x.1)) w x.2})
    (fun x => ⟨[(1, rowAV w), (3, .ptr (.loc 3) 0), (7, .ptr (.loc 7) 0), (78, .pv (.ro 3 (e.kids.map E.pv))), (79, vI e.kids.length), (80, vI x.1.1)],
      [(.loc 3, some (.box 25 e.cells)), (.loc 7, some (.box 66 [.rom (Q N x.1.2)]))]⟩)
    (fun x => e.kids.length - x.1.1) ⟨(0, S), by simp; exact hS⟩ [] (by simp [E.cells, hop]) fun x ih => ?_
  obtain ⟨⟨i, S'⟩, hi, hS', hn⟩ := x
  simp only at ih hi hS' hn
  refine hC.vc [] 60 ?_
  by_cases hlt : i < e.kids.length
  · rw [List.drop_eq_getElem_cons hlt] at hn
    simp [hlt, E.pv_eq, E.cells]
    refine hC.call [] (hk e.kids[i] (by simp) S' hS') (by simp [E.av, E.cells]) ?_
    refine hC.vc [] 60 ?_
    simp
    have hw1 := wr64 ((i : Int) + 1) (by omega)
    refine go_to [] (ih ⟨(i + 1, stepP e.kids[i].L w S'), hlt, fun j hj => hw ▸ hj.1, ?_⟩ (by simp; omega)) (by simp [hw1, E.cells])
    rw [hn]
    exact stepP_cat _ _ _ _
  · simp [hlt]
    rw [List.drop_eq_nil_of_le (by omega)] at hn
    rw [hn]
    have : stepP (E.L.seqL []) w S' = S' := stepP_nil (fun i hi => hw ▸ hS' i hi)
    rw [this]
end Go.Proofs.D
/-
  WHERE ONE MAY BE BEHIND AN EXPRESSION: one of several.
-/
set_option linter.unusedVariables false
set_option linter.unusedSimpArgs false
namespace Go.Proofs.D
open Go Go.Abs
attribute [local simp] VC stepV stepTop stepReg stepOp stMove stPick stBin stUn stConv stBox stAlloc stLoad stStore stFieldAddr stField stExtract stNilCheck stMakeFunc stIndexAddr stIndex stLen
  stBuild placesOf fillA stBuildSlice sliceCells repL chunks allPV toPV drawOk drawOk.go mayMakeO mayMake1 disjoint pairOk Oper.apart Oper.looksAt Op.operands Call.operands Region.binds stAppend appBase appTail unName stSlice bndA
  LS.ev LS.get LS.blk LS.put LS.app LS.upd lkS lkH setS setH Nm.eqb guardOf nexts okPair dstOk AV.cellsOf takeAt putAt lkT sliceE fieldT intK isStrT isBoolT abin newOk LS.freshB LS.freshB.go LS.freshB.goH notIn AV.ments AV.ments.mentsL Blk.ments makes upsMents LS.start startL exitTo T Nat.blt
  conv convS convH srcs srcOf blkOk leA leA.leL leB leP laid laidM isArg subH retP resAV resL res1 AV.frz AV.frz.frzL evL AV.ren AV.ren.renL Blk.ren renBs blksOf allSome nodupB onlyArgs blksMents callUps keyed inName inName.go backName callSide
set_option maxRecDepth 20000 in
theorem f34_alt (Gl : Granted) (N : Nat) (hN : N + 1 < maxLen) (w : Row) (hw : w.length = N) (e : E) (hop : e.op = 97) (S : Nat → Prop) (hS : ∀ i, S i → i ≤ N)
    (hk : ∀ k ∈ e.kids, ∀ S, (∀ i, S i → i ≤ N) → Fun Tryd.prog Gl 34 [k.av, rowAV w, .rom (Q N S)] [] (.rom (Q N (stepP k.L w S))) []) :
    Fun Tryd.prog Gl 34 [e.av, rowAV w, .rom (Q N S)] [] (.rom (Q N (stepP (E.L.altL e.kids) w S))) [] := by
  refine fun_of (T := T) (n := 120) (rs := [.tmp 6]) Tryd.func34 (by kernel_rfl) rfl rfl rfl tok mixed (by simp) fun C hC => ?_
  refine hC.vc [] 60 ?_
  simp [E.av, E.cells, hop]
  refine hC.makeSet 3 3 N (by rfl) (by rfl) (by simp) ?_
  refine hC.vc [] 60 ?_
  simp [hop]
  refine go_len 92 3 (e.kids.map E.pv) (by simp) fun hlen => ?_
  rw [List.length_map] at hlen
  refine go_loop (ι := {x : Nat × (Nat → Prop) // x.1 ≤ e.kids.length ∧ ∀ j, stepP (E.L.altL e.kids) w S j ↔ x.2 j ∨ stepP (E.L.altL (e.kids.drop x.1)) w S j})
    (fun x => ⟨[(1, rowAV w), (2, .rom (Q N S)), (3, .ptr (.loc 3) 0), (7, .ptr (.loc 7) 0), (8, .fn (.func 62) [] [.ptr (.loc 7) 0]), (92, .pv (.ro 3 (e.kids.map E.pv))), (93, vI e.kids.length), (94, vI x.1.1)],
      [(.loc 3, some (.box 25 e.cells)), (.loc 16, some (.raw (Q N x.1.2))), (.loc 7, some (.box 66 [.hmap (.loc 16)]))]⟩)
    (fun x => e.kids.length - x.1.1) ⟨(0, fun _ => False), by simp⟩ [] (by simp [E.cells, hop]) fun x ih => ?_
  obtain ⟨⟨i, O⟩, hi, hn⟩ := x
  simp only at ih hi hn
  refine hC.vc [] 60 ?_
  by_cases hlt : i < e.kids.length
  · rw [List.drop_eq_getElem_cons hlt] at hn
    simp [hlt, E.pv_eq, E.cells]
    refine hC.call [] (hk e.kids[i] (by simp) S hS) (by simp [E.av, E.cells]) ?_
    refine hC.vc [] 60 ?_
    simp
    refine hC.call [.loc 7, .loc 16] (f62 Gl N hN O (stepP e.kids[i].L w S)) (by simp) ?_
    refine hC.vc [] 60 ?_
    simp
    have hw1 := wr64 ((i : Int) + 1) (by omega)
    refine go_to [] (ih ⟨(i + 1, fun j => O j ∨ stepP e.kids[i].L w S j), hlt, fun j => ?_⟩ (by simp; omega)) (by simp [hw1, E.cells])
    rw [hn j, or_assoc]
    exact or_congr Iff.rfl (stepP_or _ _ _ _ j)
  · simp [hlt]
    refine setQ_congr fun j => ?_
    rw [hn j, List.drop_eq_nil_of_le (by omega)]
    exact ⟨.inl, fun h => h.elim id fun ⟨_, _, _, _, h⟩ => h.elim⟩
end Go.Proofs.D
/-
  WHERE ONE MAY BE BEHIND AN EXPRESSION: it or nothing.
-/
set_option linter.unusedVariables false
set_option linter.unusedSimpArgs false
namespace Go.Proofs.D
open Go Go.Abs
attribute [local simp] VC stepV stepTop stepReg stepOp stMove stPick stBin stUn stConv stBox stAlloc stLoad stStore stFieldAddr stField stExtract stNilCheck stMakeFunc stIndexAddr stIndex stLen
  stBuild placesOf fillA stBuildSlice sliceCells repL chunks allPV toPV drawOk drawOk.go mayMakeO mayMake1 disjoint pairOk Oper.apart Oper.looksAt Op.operands Call.operands Region.binds stAppend appBase appTail unName stSlice bndA
  LS.ev LS.get LS.blk LS.put LS.app LS.upd lkS lkH setS setH Nm.eqb guardOf nexts okPair dstOk AV.cellsOf takeAt putAt lkT sliceE fieldT intK isStrT isBoolT abin newOk LS.freshB LS.freshB.go LS.freshB.goH notIn AV.ments AV.ments.mentsL Blk.ments makes upsMents LS.start startL exitTo T Nat.blt
  conv convS convH srcs srcOf blkOk leA leA.leL leB leP laid laidM isArg subH retP resAV resL res1 AV.frz AV.frz.frzL evL AV.ren AV.ren.renL Blk.ren renBs blksOf allSome nodupB onlyArgs blksMents callUps keyed inName inName.go backName callSide
set_option maxRecDepth 20000 in
theorem f34_opt (Gl : Granted) (N : Nat) (hN : N + 1 < maxLen) (w : Row) (hw : w.length = N) (e : E) (hop : e.op = 63) (k : E) (hkk : e.kids = [k]) (S : Nat → Prop) (hS : ∀ i, S i → i ≤ N)
    (hk : ∀ k ∈ e.kids, ∀ S, (∀ i, S i → i ≤ N) → Fun Tryd.prog Gl 34 [k.av, rowAV w, .rom (Q N S)] [] (.rom (Q N (stepP k.L w S))) []) :
    Fun Tryd.prog Gl 34 [e.av, rowAV w, .rom (Q N S)] [] (.rom (Q N (fun j => S j ∨ stepP k.L w S j))) [] := by
  refine fun_of (T := T) (n := 120) (rs := [.tmp 6]) Tryd.func34 (by kernel_rfl) rfl rfl rfl tok mixed (by simp) fun C hC => ?_
  refine hC.vc [] 60 ?_
  simp [E.av, E.cells, hop, hkk]
  refine hC.makeSet 3 3 N (by rfl) (by rfl) (by simp) ?_
  refine hC.vc [] 60 ?_
  simp [hop]
  refine hC.call [.loc 7, .loc 16] (f62 Gl N hN (fun _ => False) S) (by simp) ?_
  refine hC.vc [] 60 ?_
  simp [E.pv_eq k]
  refine hC.call [] (hk k (by simp [hkk]) S hS) (by simp [E.av, E.cells]) ?_
  refine hC.vc [] 60 ?_
  simp
  refine hC.call [.loc 7, .loc 16] (f62 Gl N hN (fun i => False ∨ S i) (stepP k.L w S)) (by simp) ?_
  refine hC.vc [] 60 ?_
  simp
end Go.Proofs.D
