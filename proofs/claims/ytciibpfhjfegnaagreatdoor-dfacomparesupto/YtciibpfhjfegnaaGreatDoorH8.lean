/-
  ROWS OF EXPRESSIONS: grown, cloned, laid one behind the other.
-/
import Derived.Test.YtciibpfhjfegnaaGreatDoorG13
import Derived.Test.YtciibpfhjfegnaaGreatDoorAbsMB
import Derived.Test.YtciibpfhjfegnaaGreatDoorShelfS
import Derived.Test.YtciibpfhjfegnaaGreatDoorL2
import Derived.Test.YtciibpfhjfegnaaGreatDoorL6
set_option linter.unusedVariables false
set_option linter.unusedSimpArgs false
namespace Go.Proofs.D
open Go Go.Abs Go.Shelf Go.RowKit
attribute [local simp] VC VCS stepVS stepTopS firstId memN bigB unmark markT mkOff calmP keepT boundB boundC stepV stepTop stepReg stepOp stMove stPick stBin stUn stConv stBox stAlloc stLoad stStore stFieldAddr stField stExtract stNilCheck stMakeFunc stIndexAddr stIndex stLen
  stBuild placesOf fillA stBuildSlice sliceCells repL chunks allPV toPV drawOk drawOk.go mayMakeO mayMake1 disjoint pairS Oper.apart Oper.looksAt Op.operands Call.operands Region.binds stAppend appBase appTail unName stSlice bndA
  LS.ev LS.get LS.blk LS.put LS.app LS.upd lkS lkH setS setH Nm.eqb guardOf nexts okPair dstOk AV.cellsOf takeAt putAt lkT sliceE fieldT intK isStrT isBoolT abin newOk LS.freshB LS.freshB.go LS.freshB.goH notIn AV.ments AV.ments.mentsL Blk.ments makes upsMents LS.start startL exitTo T T5 outs callSideR callSideO callSideD upsR backO freshAll argB onlyIO List.map List.append List.nil_append List.cons_append Nat.blt
  conv convS convH srcs srcOf blkOk leA leA.leL Go.Abs.leB leP laid laidM laidG isArg subH retP resAV resL res1 AV.frz AV.frz.frzL evL AV.ren AV.ren.renL Blk.ren renBs blksOf allSome nodupB onlyArgs blksMents callUps keyed inName inName.go backName callSide
theorem grow_nil {P : Program} {ρ : Ren} (L : Lays8.n4 P ρ) {T : TT} (hT : TOk P T) {inf : TI} (hi : lkT T (ρ.t 25) = some inf) (hb : inf.bytes ≤ 1000) (Gl : Granted) (g : Nat) (hg : ρ.f 4 = g) (e : Nat) (he : ρ.t 25 = e) (hfn : ∃ fng, P.funcs[g]? = some fng ∧ (fng.name == "runtime.NumGoroutine") = false ∧ fng.body.isNone = false) (k n : Nat) (hn : n ≤ 100000000000) :
    FunO P Gl g [.pv (.nilS k), vI n] [] (.own (.out 0)) [] [.row e inf.size []] := by
  subst hg he
  have ok := lkT_ok hT hi
  obtain ⟨i0, z, h1, h2, h3, h4, h5, h6⟩ := ok.info
  have hz : z.cells.size = inf.size := by have := congrArg List.length h5; simp at this; omega
  refine funO_row hfn (by simp) fun w F cargs hF hlen hr => ?_
  match cargs, hlen with
  | [c0, c1], _ =>
    obtain rfl := nil_of (hr 0 _ c0 rfl rfl)
    obtain rfl := bool_of (hr 1 _ c1 rfl rfl)
    by_cases h0 : n = 0
    · subst h0
      refine (Any8.slices_Grow_room L none 0 0 0 w (by omega) (by omega) (by omega) (by omega)).mono ?_
      rintro e' w' ⟨rfl, rfl⟩
      exact ⟨_, [], rfl, World.ownsRow_nil _ _ _ _, by simp, by simp, Below.refl _ _⟩
    · refine (Any8.slices_Grow_grow L i0 z h1 h4 (by rw [h2]; exact ok.one) none 0 0 n [] w (by omega) (by omega) ?_ (by omega) (by simp) (fun _ => rfl) (by simp)).mono ?_
      · rw [h3]
        have : (0 + n) * inf.bytes ≤ (0 + n) * 1000 := Nat.mul_le_mul_left _ hb
        omega
      · rintro e' w' ⟨rfl, rfl⟩
        have hge := grownCap_ge w (0 + n) 0 (ρ.t 25)
        have hle := grownCap_le_maxLen w (0 + n) 0 (ρ.t 25) (by unfold maxLen; omega)
        have hle2 := hle
        simp only [Nat.zero_add] at hge hle2
        refine ⟨_, [], rfl, ?_, by simp, by simp, ((Below.refl _ w).drew).alloc (by simp) _⟩
        refine World.ownsRow_made w.drew _ _ (by simp) hle ?_
        simp only [Array.size_append, size_zeroCells, hz, List.size_toArray, List.length_nil, Nat.zero_add]
        rw [← Nat.add_mul]
        congr 1
        omega
theorem h229 (Gl : Granted) (k n : Nat) (hn : n ≤ 100000000000) : FunO Tryz.prog Gl 229 [.pv (.nilS k), vI n] [] (.own (.out 0)) [] [.row 24 3 []] :=
  grow_nil Tryz.grow229 (T := T5) tok5 rfl (by decide) Gl 229 rfl 24 rfl ⟨_, Tryz.func229, by kernel_rfl, rfl⟩ k n hn
abbrev rB (r : Rest) : Blk := .row 24 3 (r.map E.pv)
set_option maxRecDepth 20000 in
theorem h201 (Gl : Granted) (r : Rest) (hr : r.length ≤ 1000000) : FunO Tryz.prog Gl 201 [rV r] [] (.own (.out 0)) [] [rB r] := by
  refine funO_of (T := T5) (n := 8) (rs := [.tmp 2]) Tryz.func201 (by kernel_rfl) rfl rfl rfl tok5 mixed (by simp) fun C hC => ?_
  refine hC.go [5] 60 ?_
  simp
  refine hC.isNil Tryz.underlying203 rfl (by simp; exact ⟨rfl, rfl⟩) fun b hb => ?_
  cases b with
  | true =>
    have hr0 : r = [] := Classical.byContradiction fun h => absurd (hb (by simpa using h)) (by decide)
    subst hr0
    refine hC.til [2] [5] 60 ?_
    simp
    refine hC.go [5] 3 ?_
    simp
    refine go_to (M := ⟨[(2, .own (.out 0))], [(.out 0, some (rB []))]⟩) [(.out 0, .nil)] ?_ (by simp)
    refine hC.go [] 60 ?_
    simp
  | false =>
    refine hC.til [3] [5] 60 ?_
    simp
    refine hC.go [5] 6 ?_
    simp
    refine ⟨by omega, ?_⟩
    refine go_to (M := ⟨[(2, .own (.out 0))], [(.out 0, some (rB r))]⟩) [(.out 0, .nm (.loc 7))] ?_ (by simp)
    refine hC.go [] 60 ?_
    simp
abbrev restsV (l : List Rest) : PV := .ro 1 (l.map fun r => [rP r])
def flatN (l : List Rest) (i : Nat) : Nat := (l.take i).flatten.length
theorem flat_take {l : List Rest} {i : Nat} (h : i < l.length) : (l.take (i + 1)).flatten = (l.take i).flatten ++ l[i] := by
  rw [List.take_add_one, List.getElem?_eq_getElem h]
  simp only [Option.toList_some, List.flatten_append, List.flatten_cons, List.flatten_nil, List.append_nil]
theorem flatN_succ {l : List Rest} {i : Nat} (h : i < l.length) : flatN l (i + 1) = flatN l i + l[i].length := by
  unfold flatN; rw [flat_take h, List.length_append]
theorem flatN_le (l : List Rest) (i : Nat) : flatN l i ≤ l.flatten.length := by
  have := congrArg List.length (congrArg List.flatten (List.take_append_drop i l))
  rw [List.flatten_append, List.length_append] at this
  unfold flatN
  omega
set_option maxRecDepth 20000 in
theorem h200 (Gl : Granted) (l : List Rest) (hl : l.length ≤ 1000000) (hs : l.flatten.length ≤ 1000000) : Fun Tryz.prog Gl 200 [.pv (restsV l)] [] (rV l.flatten) [] := by
  refine fun_of (T := T5) (n := 36) (rs := [.tmp 2]) Tryz.func200 (by kernel_rfl) rfl rfl rfl tok5 mixed (by simp) fun C hC => ?_
  refine hC.go [] 60 ?_
  simp
  refine go_loop (ι := {i : Nat // i ≤ l.length}) (fun i => ⟨[(0, .pv (restsV l)), (3, vI (flatN l i.1)), (9, .pv (restsV l)), (10, vI l.length), (11, vI i.1)], []⟩) (fun i => l.length - i.1) ⟨0, by simp⟩ [] (by simp [flatN]) fun x ih => ?_
  obtain ⟨i, hi⟩ := x
  simp only at hi ih
  have hfl := flatN_le l i
  by_cases hlt : i < l.length
  · have hw := wr64 ((i : Int) + 1) (by omega)
    have hft := flatN_succ hlt
    have hfl1 := flatN_le l (i + 1)
    have hw2 := wr64 ((flatN l i : Int) + (l[i].length : Int)) (by omega)
    have hneg : ¬ ((flatN l i : Int) + (l[i].length : Int)) < 0 := by omega
    have hlen : (flatN l (i + 1) : Int) = (flatN l i : Int) + (l[i].length : Int) := by omega
    refine hC.go [] 60 ?_
    simp [hlt, hw2, hneg]
    exact go_to [] (ih ⟨i + 1, hlt⟩ (by simp; omega)) (by simp [hw, hlen])
  · have e0 : flatN l i = l.flatten.length := by unfold flatN; rw [List.take_of_length_le (by omega)]
    rw [e0]
    generalize hN : l.flatten.length = N at hs
    refine hC.go [] 60 ?_
    simp [hlt]
    refine hC.callO [] [.can 0] (h229 Gl 0 N (by omega)) (by simp) ?_
    refine hC.go [] 60 ?_
    simp
    refine go_loop (ι := {i : Nat // i ≤ l.length}) (fun i => ⟨[(0, .pv (restsV l)), (6, .own (.can 0)), (25, .pv (restsV l)), (26, vI l.length), (27, vI i.1)], [(.can 0, some (rB (l.take i.1).flatten))]⟩) (fun i => l.length - i.1) ⟨0, by simp⟩ [] (by simp) fun x ih => ?_
    obtain ⟨i, hi⟩ := x
    simp only at hi ih
    have hfl := flatN_le l i
    obtain ⟨m, hm⟩ : ∃ m, (l.take i).flatten = m := ⟨_, rfl⟩
    have hml : m.length = flatN l i := by rw [← hm]; rfl
    dsimp only
    rw [hm]
    by_cases hlt : i < l.length
    · have hw := wr64 ((i : Int) + 1) (by omega)
      have hft := flat_take hlt
      rw [hm] at hft
      have hfn := flatN_succ hlt
      have hfl1 := flatN_le l (i + 1)
      refine hC.go [] 60 ?_
      simp [hlt]
      refine ⟨by omega, ?_⟩
      exact go_to [(.can 0, .nm (.loc 33))] (ih ⟨i + 1, hlt⟩ (by simp; omega)) (by simp [hw, hft])
    · have e1 : m = l.flatten := by rw [← hm, List.take_of_length_le (by omega)]
      rw [← e1] at hC
      refine hC.go [] 60 ?_
      simp [hlt]
end Go.Proofs.D
namespace Go.Proofs.D
open Go Go.Abs
attribute [local simp] VC VCS stepVS stepTopS firstId memN bigB unmark markT mkOff calmP keepT boundB boundC stepV stepTop stepReg stepOp stMove stPick stBin stUn stConv stBox stAlloc stLoad stStore stFieldAddr stField stExtract stNilCheck stMakeFunc stIndexAddr stIndex stLen
  stBuild placesOf fillA stBuildSlice sliceCells repL chunks allPV toPV drawOk drawOk.go mayMakeO mayMake1 disjoint pairS Oper.apart Oper.looksAt Op.operands Call.operands Region.binds stAppend appBase appTail unName stSlice bndA
  LS.ev LS.get LS.blk LS.put LS.app LS.upd lkS lkH setS setH Nm.eqb guardOf nexts okPair dstOk AV.cellsOf takeAt putAt lkT sliceE fieldT intK isStrT isBoolT abin newOk LS.freshB LS.freshB.go LS.freshB.goH notIn AV.ments AV.ments.mentsL Blk.ments makes upsMents LS.start startL exitTo T T5 outs callSideR callSideO callSideD upsR backO freshAll argB onlyIO List.map List.append List.nil_append List.cons_append Nat.blt
  conv convS convH srcs srcOf blkOk leA leA.leL Go.Abs.leB leP laid laidM laidG isArg subH retP resAV resL res1 AV.frz AV.frz.frzL evL AV.ren AV.ren.renL Blk.ren renBs blksOf allSome nodupB onlyArgs blksMents callUps keyed inName inName.go backName callSide
theorem beh_len (a : ByteArray) (e : E) : (e.beh a).length ≤ e.leaves := by
  have hk : ∀ k ∈ e.kids, (k.beh a).length ≤ k.leaves := fun k hk => beh_len a k
  have hA : ∀ l : List E, (∀ k ∈ l, (k.beh a).length ≤ k.leaves) → (E.beh.altB a l).length ≤ E.leaves.go l := by
    intro l
    induction l with
    | nil => intro _; simp [E.beh.altB, E.leaves.go]
    | cons k l ih => intro h; have := h k (by simp); have := ih fun x hx => h x (by simp [hx]); simp only [E.beh.altB, E.leaves.go, List.length_append]; omega
  have hS : ∀ l : List E, (∀ k ∈ l, (k.beh a).length ≤ k.leaves) → (E.beh.seqB a l).length ≤ E.leaves.go l := by
    intro l
    induction l with
    | nil => intro _; simp [E.beh.seqB, E.leaves.go]
    | cons k l ih =>
      intro h
      have h1 := h k (by simp)
      have h2 := ih fun x hx => h x (by simp [hx])
      simp only [E.beh.seqB, E.leaves.go, List.length_append, List.length_map]
      split
      · omega
      · simp; omega
  have hH : ∀ l : List E, (∀ k ∈ l, (k.beh a).length ≤ k.leaves) → (E.beh.headB a l).length ≤ E.leaves.go l := by
    intro l h
    cases l with
    | nil => simp [E.beh.headB, E.leaves.go]
    | cons k l => have := h k (by simp); simp only [E.beh.headB, E.leaves.go]; omega
  rw [beh_eq, leaves_eq]
  by_cases h1 : e.op = 110
  · rw [if_pos h1, if_pos h1]; split <;> simp
  · rw [if_neg h1, if_neg h1]
    split
    · exact hA _ hk
    · split
      · exact hS _ hk
      · split
        · exact hH _ hk
        · rw [List.length_map]; exact hH _ hk
termination_by SizeOf.sizeOf e
decreasing_by exact E.kids_lt hk
structure Part (e : E) : Prop where
  kids : ∀ k ∈ e.kids, Tame k
  len : e.kids.length ≤ 24
  ops : e.op = 110 ∨ e.op = 97 ∨ e.op = 115 ∨ ((e.op = 63 ∨ e.op = 42 ∨ e.op = 43) ∧ ∃ k, e.kids = [k])
theorem tame_part {e : E} (h : Tame e) : Part e := by
  have hc := h.2
  refine ⟨fun k hk => ⟨ok_kid h.1 hk, by have := cnt_kid hk; omega⟩, by have := kids_le e; omega, ?_⟩
  rcases E.ok_ops h.1 with ⟨g, _⟩ | ⟨g, _⟩ | ⟨g, _⟩ | ⟨g, _, k, hk, _⟩
  · exact .inl g
  · exact .inr (.inr (.inl g))
  · exact .inr (.inl g)
  · exact .inr (.inr (.inr ⟨by omega, k, hk⟩))
theorem tame_leaves {e : E} (h : Tame e) : e.leaves ≤ 24 := by have := (leaves_le e).1; have := h.2; omega
theorem leaves_sum {l : List E} (h : ∀ k ∈ l, Tame k) : E.leaves.go l ≤ 24 * l.length := by
  induction l with
  | nil => simp [E.leaves.go]
  | cons k l ih =>
    have := tame_leaves (h k (by simp))
    have := ih fun x hx => h x (by simp [hx])
    simp only [E.leaves.go, List.length_cons]
    omega
theorem beh_rest {e : E} (h : Tame e) (a : ByteArray) : ∀ r ∈ e.beh a, TameR r := fun r hr => by
  obtain ⟨h1, h2⟩ := pdy_ok a e h.1 r (beh_sub a e r hr)
  have := h.2
  exact ⟨by omega, fun k hk => ⟨(h2 k hk).1, by have := (h2 k hk).2; omega⟩⟩
theorem tame_has {k : E} (h : Tame k) : k.has [] = k.nul := by
  have := nul_iff k h.1
  rw [E.has, tame_right h, Bool.true_and]
  cases hn : k.nul with
  | true => simp [this.1 hn]
  | false => simp; intro q; rw [this.2 q] at hn; cases hn
theorem h24nil (Gl : Granted) {k : E} (h : Tame k) (s : Nat) : Fun Tryz.prog Gl 24 [k.av, .pv (.nilS s)] [] (vB k.nul) [] := by
  rw [← tame_has h]
  exact fun_args (f20 Gl k (ok_small k h.1) [] (by decide)) rfl nil_row
abbrev restsB (l : List Rest) : Blk := .row 203 1 (l.map fun r => [rP r])
theorem h200two (Gl : Granted) (r m : Rest) (h : r.length + m.length ≤ 1000000) : Fun Tryz.prog Gl 200 [.pv (restsV [r, m])] [] (rV (r ++ m)) [] := by
  have := h200 Gl [r, m] (by simp) (by simp; omega)
  simpa using this
set_option maxRecDepth 20000 in
set_option maxHeartbeats 4000000 in
theorem h172 (Gl : Granted) (e : E) (he : Part e) (a : ByteArray) : Fun Tryz.prog Gl 172 [e.av, vS a] [] (.pv (restsV (e.beh a))) [] := by
  have hrec : ∀ k ∈ e.kids, Fun Tryz.prog Gl 172 [k.av, vS a] [] (.pv (restsV (k.beh a))) [] := fun k hk => h172 Gl k (tame_part (he.kids k hk)) a
  have hb := beh_eq a e
  have hkl := he.len
  have hel : (e.beh a).length ≤ 24 * 24 := by
    have h1 := beh_len a e
    have h2 := leaves_sum he.kids
    rw [leaves_eq] at h1
    split at h1 <;> omega
  refine fun_of (T := T5) (n := 107) (rs := [.tmp 4]) Tryz.func172 (by kernel_rfl) rfl rfl rfl tok5 mixed (by simp) fun C hC => ?_
  refine hC.go [] 15 ?_
  simp [E.av, E.cells]
  refine go_cut1 (ι := Unit) (fun _ => ⟨[(5, .own (.can 0))], [(.can 0, some (restsB (e.beh a)))]⟩) (fun _ => ?_) (fun tail => ?_)
  · refine hC.go [] 90 ?_
    simp
  · have tail := tail ()
    by_cases h1 : e.op = 110
    · rw [if_pos h1] at hb
      by_cases h2 : e.name = a
      · rw [if_pos h2] at hb
        refine hC.til [1031] [] 90 ?_
        simp [h1, h2]
        refine go_blk (.loc 48) (.row 203 1 [[.ro 0 []]]) (.row 203 1 [[.ro 3 []]]) (by simp) (fun w F hd h => hold_last (es := []) h) ?_
        rw [hb] at tail
        exact go_to [(.can 0, .nm (.loc 48))] tail (by simp)
      · rw [if_neg h2] at hb
        rw [hb] at tail
        refine hC.til [1031] [] 90 ?_
        simp [h1, h2]
        exact go_to [(.can 0, .nil)] tail (by simp)
    · rw [if_neg h1] at hb
      by_cases h2 : e.op = 97
      · rw [if_pos h2] at hb
        refine hC.til [1031] [] 90 ?_
        simp [h1, h2]
        refine go_loop (ι := {x : Nat × List Rest // x.1 ≤ e.kids.length ∧ x.2 ++ E.beh.altB a (e.kids.drop x.1) = e.beh a}) (fun x => ⟨[(1, vS a), (5, .own (.can 0)), (52, rV e.kids), (53, vI e.kids.length), (54, vI x.1.1)], [(.can 0, some (restsB x.1.2))]⟩)
          (fun x => e.kids.length - x.1.1) ⟨(0, []), by simp, by simp [hb]⟩ [(.can 0, .nil)] (by simp) fun x ih => ?_
        obtain ⟨⟨i, out⟩, hi, ho⟩ := x
        simp only at hi ho ih
        have hol := congrArg List.length ho
        rw [List.length_append] at hol
        by_cases hlt : i < e.kids.length
        · have hw := wr64 ((i : Int) + 1) (by omega)
          rw [List.drop_eq_getElem_cons hlt, E.beh.altB, ← List.append_assoc] at ho
          refine hC.til [1031] [] 90 ?_
          simp [hlt, E.pv_eq e.kids[i]]
          refine hC.call [] (hrec e.kids[i] (by simp)) (by simp [E.av, E.cells]) ?_
          have hkb := Nat.le_trans (beh_len a e.kids[i]) (tame_leaves (he.kids e.kids[i] (by simp)))
          refine hC.til [1031] [] 90 ?_
          simp [hlt]
          refine ⟨by omega, ?_⟩
          exact go_to [(.can 0, .nm (.loc 62))] (ih ⟨(i + 1, out ++ e.kids[i].beh a), hlt, ho⟩ (by simp; omega)) (by simp [hw])
        · rw [List.drop_eq_nil_of_le (by omega), E.beh.altB, List.append_nil] at ho
          subst ho
          refine hC.til [1031] [] 90 ?_
          simp [hlt]
          exact go_to [] tail (by simp)
      · rw [if_neg h2] at hb
        by_cases h3 : e.op = 115
        · rw [if_pos h3] at hb
          refine hC.til [1031] [] 90 ?_
          simp [h1, h2, h3]
          refine go_loop (ι := {x : Nat × List Rest // x.1 ≤ e.kids.length ∧ x.2 ++ E.beh.seqB a (e.kids.drop x.1) = e.beh a}) (fun x => ⟨[(1, vS a), (2, .ptr (.loc 2) 0), (5, .own (.can 0)), (67, rV e.kids), (68, vI e.kids.length), (69, vI x.1.1)], [(.loc 2, some (.box 24 e.cells)), (.can 0, some (restsB x.1.2))]⟩)
            (fun x => e.kids.length - x.1.1) ⟨(0, []), by simp, by simp [hb]⟩ [(.can 0, .nil)] (by simp [E.cells, h3]) fun x ih => ?_
          obtain ⟨⟨i, out⟩, hi, ho⟩ := x
          simp only at hi ho ih
          by_cases hlt : i < e.kids.length
          · have hw := wr64 ((i : Int) + 1) (by omega)
            rw [List.drop_eq_getElem_cons hlt, E.beh.seqB, ← List.append_assoc] at ho
            have hkt := he.kids e.kids[i] (by simp)
            obtain ⟨rs, hrs⟩ : ∃ rs, e.kids[i].beh a = rs := ⟨_, rfl⟩
            have hcall := hrec e.kids[i] (by simp)
            rw [hrs] at ho hcall
            have hrt : ∀ r ∈ rs, TameR r := by rw [← hrs]; exact beh_rest hkt a
            have hol := congrArg List.length ho
            simp only [List.length_append, List.length_map] at hol
            refine hC.til [1031] [] 90 ?_
            simp [hlt, E.pv_eq e.kids[i], E.cells]
            refine hC.call [] hcall (by simp [E.av, E.cells]) ?_
            refine hC.til [1031] [] 90 ?_
            simp
            refine go_loop (ι := {j : Nat × List Rest // j.1 ≤ rs.length ∧ out ++ (rs.take j.1).map (· ++ e.kids.drop (i + 1)) = j.2}) (fun j => ⟨[(1, vS a), (2, .ptr (.loc 2) 0), (5, .own (.can 0)), (8, vI i), (9, .ptr (.loc 9) 0), (67, rV e.kids), (68, vI e.kids.length), (69, vI i), (76, .pv (restsV rs)), (77, vI rs.length), (78, vI j.1.1)],
                [(.loc 2, some (.box 24 e.cells)), (.loc 9, some (.box 24 e.kids[i].cells)), (.can 0, some (restsB j.1.2))]⟩)
              (fun j => rs.length - j.1.1) ⟨(0, out), by simp⟩ [] (by simp [E.cells]) fun z ihj => ?_
            obtain ⟨⟨j, m⟩, hj, hm⟩ := z
            simp only at hj hm ihj
            by_cases hjl : j < rs.length
            · have hwj := wr64 ((j : Int) + 1) (by omega)
              have hrj := (hrt rs[j] (by simp)).1
              have htk : rs.take (j + 1) = rs.take j ++ [rs[j]] := by rw [List.take_add_one, List.getElem?_eq_getElem hjl]; rfl
              have hml : m.length ≤ 24 * 24 := by rw [← hm, List.length_append, List.length_map, List.length_take]; omega
              obtain ⟨d, hd⟩ : ∃ d, e.kids.drop (i + 1) = d := ⟨_, rfl⟩
              have hdl : d.length ≤ 24 := by rw [← hd, List.length_drop]; omega
              have hstep : out ++ (rs.take (j + 1)).map (· ++ d) = m ++ [rs[j] ++ d] := by rw [htk, List.map_append, ← List.append_assoc, ← hm, hd]; rfl
              have hw1 := wr64 ((i : Int) + 1) (by omega)
              refine hC.til [1031] [] 90 ?_
              have hkk : List.drop (i + 1) (List.take e.kids.length (List.map E.pv e.kids)) = d.map E.pv := by rw [List.take_of_length_le (by simp), ← List.map_drop, hd]
              simp [hjl, E.cells, hw1]
              rw [hkk]
              refine ⟨by omega, ?_⟩
              refine hC.call [] (h200two Gl rs[j] d (by omega)) (by simp) ?_
              refine hC.til [1031] [] 90 ?_
              simp
              refine ⟨by omega, ?_⟩
              exact go_to [(.can 0, .nm (.loc 92))] (ihj ⟨(j + 1, m ++ [rs[j] ++ d]), hjl, by rw [hd]; exact hstep⟩ (by simp; omega)) (by simp [hwj, E.cells])
            · have htk : rs.take j = rs := List.take_of_length_le (by omega)
              rw [htk] at hm
              rw [hm] at ho
              refine hC.til [1031] [] 90 ?_
              simp [hjl, E.cells]
              refine hC.call [] (h24nil Gl hkt 0) (by simp [E.av, E.cells]) ?_
              cases hn : e.kids[i].nul with
              | true =>
                simp [hn] at ho
                refine hC.til [1031] [] 90 ?_
                simp
                exact go_to [] (ih ⟨(i + 1, m), hlt, by simpa using ho⟩ (by simp; omega)) (by simp [hw, E.cells])
              | false =>
                simp [hn] at ho
                subst ho
                refine hC.til [1031] [] 90 ?_
                simp
                exact go_to [] tail (by simp)
          · rw [List.drop_eq_nil_of_le (by omega), E.beh.seqB, List.append_nil] at ho
            subst ho
            refine hC.til [1031] [] 90 ?_
            simp [hlt]
            exact go_to [] tail (by simp)
        · rw [if_neg h3] at hb
          obtain ⟨k, hk⟩ : ∃ k, e.kids = [k] := by
            rcases he.ops with g | g | g | ⟨_, g⟩
            · exact absurd g h1
            · exact absurd g h2
            · exact absurd g h3
            · exact g
          have hcall := hrec k (by rw [hk]; simp)
          have hkt := he.kids k (by rw [hk]; simp)
          by_cases h4 : e.op = 63
          · rw [if_pos h4, hk, E.beh.headB] at hb
            refine hC.til [1031] [] 90 ?_
            simp [h1, h2, h3, h4, hk, E.pv_eq k]
            refine hC.call [] hcall (by simp [E.av, E.cells]) ?_
            refine hC.go [] 90 ?_
            simp [hb]
          · rw [if_neg h4, hk, E.beh.headB] at hb
            refine hC.til [1031] [] 90 ?_
            simp [h1, h2, h3, h4, hk, E.pv_eq k]
            refine hC.call [] hcall (by simp [E.av, E.cells]) ?_
            refine hC.til [1031] [] 90 ?_
            simp
            obtain ⟨rs, hrs⟩ : ∃ rs, k.beh a = rs := ⟨_, rfl⟩
            have hrt : ∀ r ∈ rs, TameR r := by rw [← hrs]; exact beh_rest hkt a
            obtain ⟨ag, hag⟩ : ∃ ag, E.mk 42 ⟨#[]⟩ [k] = ag := ⟨_, rfl⟩
            have hagc : ag.cells = [.pv (.val (.int .u8 42)), .pv (.val (.string ⟨#[]⟩)), .pv (.ro 3 [k.pv])] := by rw [← hag]; simp [E.cells, E.op, E.name, E.kids]
            have hagp : ag.pv = [.val (.int .u8 42), .val (.string ⟨#[]⟩), .ro 3 [k.pv]] := by rw [← hag, E.pv_eq]; simp [E.op, E.name, E.kids]
            rw [hrs, hag] at hb
            have hrl : rs.length ≤ 24 * 24 := by rw [hb, List.length_map] at hel; exact hel
            refine go_loop (ι := {j : Nat × List Rest // j.1 ≤ rs.length ∧ (rs.take j.1).map (· ++ [ag]) = j.2}) (fun j => ⟨[(5, .own (.can 0)), (12, .ptr (.loc 12) 0), (25, .pv (restsV rs)), (26, vI rs.length), (27, vI j.1.1)],
                [(.loc 12, some (.box 24 ag.cells)), (.can 0, some (restsB j.1.2))]⟩)
              (fun j => rs.length - j.1.1) ⟨(0, []), by simp⟩ [(.can 0, .nil)] (by simp [hagc, hrs, E.pv_eq k]) fun z ihj => ?_
            obtain ⟨⟨j, m⟩, hj, hm⟩ := z
            simp only at hj hm ihj
            by_cases hjl : j < rs.length
            · have hwj := wr64 ((j : Int) + 1) (by omega)
              have hrj := (hrt rs[j] (by simp)).1
              have htk : rs.take (j + 1) = rs.take j ++ [rs[j]] := by rw [List.take_add_one, List.getElem?_eq_getElem hjl]; rfl
              have hml : m.length ≤ 24 * 24 := by rw [← hm, List.length_map, List.length_take]; omega
              have hstep : (rs.take (j + 1)).map (· ++ [ag]) = m ++ [rs[j] ++ [ag]] := by rw [htk, List.map_append, ← hm]; rfl
              refine hC.til [1031] [] 90 ?_
              simp [hjl, hagc]
              refine hC.drawn (by kernel_rfl) (by simp) ?_
              refine hC.go [] 90 ?_
              simp
              refine hC.callD [] 33 (h201 Gl rs[j] (by omega)) (by simp) ?_
              refine hC.go [] 90 ?_
              simp
              refine ⟨by omega, ?_⟩
              refine hC.buildLay (t := 36) (r := .loc 36) (e := 24) (sz := 3) (es := (rs[j] ++ [ag]).map E.pv) rfl (by simp [hagp]) ?_
              refine hC.til [1031] [] 90 ?_
              simp
              refine ⟨by omega, ?_⟩
              exact go_to [(.can 0, .nm (.loc 38))] (ihj ⟨(j + 1, m ++ [rs[j] ++ [ag]]), hjl, hstep⟩ (by simp; omega)) (by simp [hwj, hagc])
            · have htk : rs.take j = rs := List.take_of_length_le (by omega)
              rw [htk, ← hb] at hm
              subst hm
              refine hC.til [1031] [] 90 ?_
              simp [hjl, E.cells]
              exact go_to [] tail (by simp)
termination_by SizeOf.sizeOf e
decreasing_by exact E.kids_lt hk
theorem tame_print (Gl : Granted) {k : E} (h : Tame k) : Fun Tryz.prog Gl 73 [k.av] [] (.tup [vS (k.text false), vI 0]) [] := by
  have := f17 Gl k (ok_small k h.1) (by have := h.2; omega)
  rw [E.print, if_pos (tame_right h)] at this
  exact this
abbrev strsB (l : List ByteArray) : Blk := .row 9 1 (l.map fun s => [.val (.string s)])
set_option maxRecDepth 20000 in
theorem h134 (Gl : Granted) (r : Rest) (hr : TameR r) : Fun Tryz.prog Gl 134 [rV r] [] (vS (rtext r)) [] := by
  have hrl := hr.1
  have hsz := rtext_size hr
  refine fun_of (T := T5) (n := 26) (rs := [.tmp 2]) Tryz.func134 (by kernel_rfl) rfl rfl rfl tok5 mixed (by simp) fun C hC => ?_
  refine hC.go [] 60 ?_
  simp
  refine go_loop (ι := {x : Nat × List ByteArray // x.1 ≤ r.length ∧ x.2 = (r.take x.1).map fun e => e.text false}) (fun x => ⟨[(3, .own (.can 0)), (8, rV r), (9, vI r.length), (10, vI x.1.1)], [(.can 0, some (strsB x.1.2))]⟩) (fun x => r.length - x.1.1) ⟨(0, []), by simp⟩ [(.can 0, .nil)] (by simp) fun x ih => ?_
  obtain ⟨⟨i, l⟩, hi, hl⟩ := x
  simp only at hi hl ih
  have hll : l.length ≤ r.length := by rw [hl]; simp; omega
  by_cases hlt : i < r.length
  · have hw := wr64 ((i : Int) + 1) (by omega)
    have htk : (r.take (i + 1)).map (fun e => e.text false) = l ++ [r[i].text false] := by rw [List.take_add_one, List.getElem?_eq_getElem hlt, hl, List.map_append]; rfl
    refine hC.go [] 60 ?_
    simp [hlt, E.pv_eq r[i]]
    refine hC.call [] (tame_print Gl (hr.2 r[i] (by simp))) (by simp [E.av, E.cells]) ?_
    refine hC.go [] 60 ?_
    simp
    refine ⟨by omega, ?_⟩
    exact go_to [(.can 0, .nm (.loc 22))] (ih ⟨(i + 1, l ++ [r[i].text false]), hlt, htk.symm⟩ (by simp; omega)) (by simp [hw])
  · have hl' : l = r.map fun e => e.text false := by rw [hl, List.take_of_length_le (by omega)]
    have hj : joinB l ⟨#[44]⟩ = rtext r := by rw [hl']; rfl
    refine hC.go [] 60 ?_
    simp [hlt]
    refine hC.call [.can 0] (fun_ownRow (a := []) (b := [vS ⟨#[44]⟩]) (e := 9) (by simp [AV.ments]) rfl (f39 Gl l ⟨#[44]⟩ (by omega) (by rw [hj]; omega))) (by simp) ?_
    refine hC.go [] 60 ?_
    simp [hj]
theorem h203 (Gl : Granted) (k : E) (h : Tame k) : Fun Tryz.prog Gl 203 [k.av] [] (vB (!k.nul)) [] := by
  refine fun_of (T := T5) (n := 6) (rs := [.tmp 2]) Tryz.func203 (by kernel_rfl) rfl rfl rfl tok5 mixed (by simp) fun C hC => ?_
  refine hC.go [] 60 ?_
  simp [E.av, E.cells]
  refine hC.call [] (h24nil Gl h 0) (by simp [E.av, E.cells]) ?_
  refine hC.go [] 60 ?_
  simp
theorem h230 (Gl : Granted) (l : List E) (g : Nat) (q : E → Bool) (hq : ∀ x ∈ l, Fun Tryz.prog Gl g [x.av] [] (vB (q x)) []) (hl : l.length ≤ 1000000) :
    Fun Tryz.prog Gl 230 [rV l, .fn (.func g) [] []] [] (vI (firstIx q l 0)) [] := by
  refine fun_of (T := T5) (n := 19) (rs := [.tmp 4]) Tryz.func230 (by kernel_rfl) rfl rfl rfl tok5 mixed (by simp) fun C hC => ?_
  refine hC.go [] 60 ?_
  simp
  refine go_loop (ι := {i : Nat // i ≤ l.length ∧ firstIx q l 0 = firstIx q (l.drop i) i}) (fun x => ⟨[(0, rV l), (1, .fn (.func g) [] []), (6, rV l), (7, vI l.length), (8, vI x.1)], []⟩) (fun x => l.length - x.1) ⟨0, by simp⟩ [] (by simp) fun x ih => ?_
  obtain ⟨i, hi, hn⟩ := x
  simp only at hi hn ih
  by_cases hlt : i < l.length
  · rw [List.drop_eq_getElem_cons hlt] at hn
    simp only [firstIx] at hn
    refine hC.go [] 60 ?_
    simp [hlt, E.pv_eq l[i]]
    refine hC.call [] (hq l[i] (by simp)) (by simp [E.av, E.cells]) ?_
    cases hqi : q l[i] with
    | true =>
      refine hC.go [] 60 ?_
      simp [hn, hqi]
    | false =>
      have hw := wr64 ((i : Int) + 1) (by omega)
      refine hC.go [] 60 ?_
      simp
      exact go_to [] (ih ⟨i + 1, hlt, by simpa [hqi] using hn⟩ (by simp; omega)) (by simp [hw])
  · rw [List.drop_eq_nil_of_le (by omega)] at hn
    refine hC.go [] 60 ?_
    simp [hlt, hn, firstIx]
theorem h202 (Gl : Granted) (l : List E) (g : Nat) (q : E → Bool) (hq : ∀ x ∈ l, Fun Tryz.prog Gl g [x.av] [] (vB (q x)) []) (hl : l.length ≤ 1000000) :
    Fun Tryz.prog Gl 202 [rV l, .fn (.func g) [] []] [] (vB (l.any q)) [] := by
  refine fun_of (T := T5) (n := 9) (rs := [.tmp 4]) Tryz.func202 (by kernel_rfl) rfl rfl rfl tok5 mixed (by simp) fun C hC => ?_
  refine hC.go [] 60 ?_
  simp
  refine hC.call [] (h230 Gl l g q hq hl) (by simp) ?_
  refine hC.go [] 60 ?_
  simp [firstIx_any]
theorem nulR_any (r : Rest) : nulR r = !(r.any fun k => !k.nul) := by
  unfold nulR
  induction r with
  | nil => rfl
  | cons k r ih => simp only [E.nul.allN, List.any_cons, ih]; cases k.nul <;> simp
theorem h173 (Gl : Granted) (r : Rest) (hr : TameR r) : Fun Tryz.prog Gl 173 [rV r] [] (vB (nulR r)) [] := by
  refine fun_of (T := T5) (n := 6) (rs := [.tmp 2]) Tryz.func173 (by kernel_rfl) rfl rfl rfl tok5 mixed (by simp) fun C hC => ?_
  refine hC.go [] 60 ?_
  simp
  refine hC.call [] (h202 Gl r 203 (fun k => !k.nul) (fun x hx => h203 Gl x (hr.2 x hx)) (by have := hr.1; omega)) (by simp) ?_
  refine hC.go [] 60 ?_
  simp [nulR_any]
theorem stQ_mono (l : List Rest) {w w' : World} {F F' : Nat → Prop} {o : Obj} (h : mapG Tryz.prog 9 (entsOf l) w F o) (h1 : ∀ k, F k → w'.heap[k]? = w.heap[k]?) (h2 : ∀ k, F k → F' k) : mapG Tryz.prog 9 (entsOf l) w' F' o := mapG_mono h h1 h2
theorem go_state {C : Ctx} {todo : List Item} {L : LS} (t : Nat) (S : Stt) (ht : L.get t = .pv (stV S)) (h : ∀ l, Lists S l → Go C (.top todo (L.put (some t) (.pv (.opq (mapAt (mapG Tryz.prog 9 (entsOf l)))))))) : Go C (.top todo L) :=
  go_open t (Lists S) (fun l => mapG Tryz.prog 9 (entsOf l)) (fun l => stQ_mono l) ht h
theorem ents_split {lr : List Rest} {l1 l2 : Ents} {p : Value × AV} (h : entsOf lr = l1 ++ p :: l2) : ∃ r1 r r2, lr = r1 ++ r :: r2 ∧ l1 = entsOf r1 ∧ p = (.string (rtext r), rV r) ∧ l2 = entsOf r2 := by
  obtain ⟨r1, x, h1, h2, h3⟩ := List.map_eq_append_iff.1 h
  obtain ⟨r, r2, h4, h5, h6⟩ := List.map_eq_cons_iff.1 h3
  exact ⟨r1, r, r2, by rw [h1, h4], h2.symm, h5.symm, h6.symm⟩
theorem ents_keys {l : List Rest} (hn : l.Nodup) (ht : ∀ r ∈ l, TameR r) : ((entsOf l).map (·.1)).Nodup := by
  rw [List.map_map]
  refine nodup_map _ l hn fun x hx y hy e => ?_
  simp only [Function.comp, Value.string.injEq] at e
  exact rtext_inj (ht x hx) (ht y hy) e
theorem ents_one (l : List Rest) : ∀ p ∈ entsOf l, p.1.oneCell' = true := fun p hp => by
  obtain ⟨r, _, rfl⟩ := List.mem_map.1 hp
  rfl
set_option maxRecDepth 20000 in
theorem h137 (Gl : Granted) (S : Stt) (hS : ∀ r, S r → TameR r) (b : Bool) (hb : b = true ↔ ∃ r, S r ∧ nulR r = true) : Fun Tryz.prog Gl 137 [.pv (stV S)] [] (vB b) [] := by
  refine fun_of (T := T5) (n := 13) (rs := [.tmp 2]) Tryz.func137 (by kernel_rfl) rfl rfl rfl tok5 mixed (by simp) fun C hC => ?_
  refine go_state 0 S (by simp) fun l hl => ?_
  have ht : ∀ r ∈ l, TameR r := fun r hr => hS r ((hl.2 r).1 hr)
  refine hC.go [] 60 ?_
  simp
  refine hC.mapRange Tryz.underlying205 (l := entsOf l) (ents_keys hl.1 ht) rfl rfl (by simp) ?_
  refine hC.go [] 60 ?_
  simp
  refine go_loop (ι := {x : List Rest × Option (Value × AV) // (∀ r ∈ x.1, r ∈ l) ∧ ∀ r ∈ l, r ∉ x.1 → nulR r = false}) (fun x => ⟨[(6, .ptr (.loc 6) 0)], [(.loc 6, some (.gen (iterG Tryz.prog 9 (entsOf l) (entsOf x.1.1) x.1.2)))]⟩) (fun x => x.1.1.length) ⟨(l, none), by simp; exact fun r h1 h2 => absurd h1 h2⟩ [] (by simp) fun x ih => ?_
  obtain ⟨⟨lr, last⟩, hx1, hx2⟩ := x
  simp only at hx1 hx2 ih
  refine hC.go [] 60 ?_
  simp
  refine hC.mapNext 9 (.loc 6) (ents_one l) rfl (by simp; rfl) (fun h0 => ?_) fun l1 p l2 h0 => ?_
  · have hb0 : b = false := by
      cases hbb : b with
      | false => rfl
      | true =>
        obtain ⟨r, hr, hn⟩ := hb.1 hbb
        have : lr = [] := by simpa using h0
        subst this
        rw [hx2 r ((hl.2 r).2 hr) (by simp)] at hn
        cases hn
    refine hC.go [] 60 ?_
    simp [hb0]
  · obtain ⟨r1, r, r2, rfl, rfl, rfl, rfl⟩ := ents_split h0
    have hrl := hx1 r (by simp)
    refine hC.go [] 60 ?_
    simp
    refine hC.mapEntry 9 (.loc 6) rfl rfl (by simp; rfl) ?_
    refine hC.go [] 60 ?_
    simp
    refine hC.call [] (h173 Gl r (ht r hrl)) (by simp) ?_
    cases hn : nulR r with
    | true =>
      have hb1 : b = true := hb.2 ⟨r, (hl.2 r).1 hrl, hn⟩
      refine hC.go [] 60 ?_
      simp [hb1]
    | false =>
      refine hC.go [] 60 ?_
      simp
      refine go_to [] (ih ⟨(r1 ++ r2, some (.string (rtext r), rV r)), fun x hx => hx1 x (by simp at hx ⊢; rcases hx with h | h <;> simp [h]), fun x hx hn' => ?_⟩ (by simp)) (by simp)
      by_cases hxr : x = r
      · rw [hxr]; exact hn
      · exact hx2 x hx (by simp at hn' ⊢; exact ⟨hn'.1, hxr, hn'.2⟩)
open Classical in
noncomputable def addR (lo : List Rest) (x : Rest) : List Rest := if x ∈ lo then lo else lo ++ [x]
theorem addR_mem (lo : List Rest) (x y : Rest) : y ∈ addR lo x ↔ y ∈ lo ∨ y = x := by
  unfold addR
  split
  · rename_i h
    exact ⟨.inl, fun q => q.elim id fun e => e ▸ h⟩
  · simp
theorem addR_nodup {lo : List Rest} (h : lo.Nodup) (x : Rest) : (addR lo x).Nodup := by
  unfold addR
  split
  · exact h
  · rename_i hx
    exact List.nodup_append.2 ⟨h, by simp, fun a ha b hb => by simp at hb; subst hb; exact fun e => hx (e ▸ ha)⟩
theorem putG_add {lo : List Rest} (ht : ∀ r ∈ lo, TameR r) {x : Rest} (hx : TameR x) : putG (entsOf lo) (.string (rtext x)) (rV x) (entsOf (addR lo x)) := by
  unfold addR
  split
  · rename_i h
    obtain ⟨s, t, rfl⟩ := List.append_of_mem h
    exact .inr ⟨entsOf s, entsOf t, rV x, by simp, by simp⟩
  · rename_i h
    refine .inl ⟨fun p hp e => ?_, by simp⟩
    obtain ⟨r, hr, rfl⟩ := List.mem_map.1 hp
    simp only [Value.string.injEq] at e
    exact h (rtext_inj (ht r hr) hx e ▸ hr)
theorem key_st9 (s : ByteArray) (h : s.size ≤ maxLen) : keyOf Tryz.prog 9 (.string s) = some (.string s.data.toList) := by
  simp [keyOf, Tryz.underlying9, mapKey]
  exact h
set_option maxRecDepth 20000 in
set_option maxHeartbeats 2000000 in
theorem h136 (Gl : Granted) (S : Stt) (a : ByteArray) (hS : ∀ r, S r → TameR r) (hN : ∀ r, S r → ∀ x ∈ stepR a r, TameR x) : Fun Tryz.prog Gl 136 [.pv (stV S), vS a] [] (.pv (stV (stepS a S))) [] := by
  refine fun_of (T := T5) (n := 34) (rs := [.tmp 4]) Tryz.func136 (by kernel_rfl) rfl rfl rfl tok5 mixed (by simp) fun C hC => ?_
  refine go_state 0 S (by simp) fun l hl => ?_
  have ht : ∀ r ∈ l, TameR r := fun r hr => hS r ((hl.2 r).1 hr)
  have hn : ∀ r ∈ l, ∀ x ∈ stepR a r, TameR x := fun r hr => hN r ((hl.2 r).1 hr)
  refine hC.go [] 60 ?_
  simp
  refine hC.mapMake 9 rfl rfl (by simp) ?_
  refine hC.go [] 60 ?_
  simp
  refine hC.mapRange Tryz.underlying205 (l := entsOf l) (ents_keys hl.1 ht) rfl rfl (by simp) ?_
  refine hC.go [] 60 ?_
  simp
  refine go_loop (ι := {x : (List Rest × Option (Value × AV)) × List Rest // (∀ r ∈ x.1.1, r ∈ l) ∧ x.1.1.Nodup ∧ x.2.Nodup ∧ (∀ y, y ∈ x.2 ↔ ∃ r ∈ l, r ∉ x.1.1 ∧ y ∈ stepR a r)})
    (fun x => ⟨[(1, vS a), (5, .hmap (.can 0)), (13, .ptr (.loc 13) 0)], [(.can 0, some (.gen (mapG Tryz.prog 9 (entsOf x.1.2)))), (.loc 13, some (.gen (iterG Tryz.prog 9 (entsOf l) (entsOf x.1.1.1) x.1.1.2)))]⟩)
    (fun x => x.1.1.1.length) ⟨((l, none), []), by simp; exact ⟨hl.1, fun y r h1 h2 => absurd h1 h2⟩⟩ [(.can 0, .nm (.loc 11))] (by simp) fun x ih => ?_
  obtain ⟨⟨⟨lr, last⟩, lo⟩, hx1, hx2, hx3, hx4⟩ := x
  simp only at hx1 hx2 hx3 hx4 ih
  have hlt : ∀ y ∈ lo, TameR y := fun y hy => by
    obtain ⟨r, h1, _, h2⟩ := (hx4 y).1 hy
    exact hn r h1 y h2
  refine hC.go [] 60 ?_
  simp
  refine hC.mapNext 9 (.loc 13) (ents_one l) rfl (by simp; rfl) (fun h0 => ?_) fun l1 p l2 h0 => ?_
  · have hlr : lr = [] := by simpa using h0
    subst hlr
    have hlo : Lists (stepS a S) lo := ⟨hx3, fun y => (hx4 y).trans ⟨fun ⟨r, h1, _, h2⟩ => ⟨r, (hl.2 r).1 h1, h2⟩, fun ⟨r, h1, h2⟩ => ⟨r, (hl.2 r).2 h1, by simp, h2⟩⟩⟩
    refine hC.til [1011] [] 60 ?_
    simp
    refine go_to (M := ⟨[(5, .hmap (.can 0))], [(.can 0, some (.gen (stQ (stepS a S))))]⟩) [] ?_ (by simp; exact fun w F o h => ⟨lo, hlo, h⟩)
    refine hC.go [] 60 ?_
    simp
  · obtain ⟨r1, r, r2, rfl, rfl, rfl, rfl⟩ := ents_split h0
    have hrl := hx1 r (by simp)
    have hrt := ht r hrl
    have hbeh : (E.mk 115 ⟨#[]⟩ r).beh a = stepR a r := by rw [beh_eq]; simp [E.op, E.kids, stepR]
    have hpart : Part (E.mk 115 ⟨#[]⟩ r) := ⟨hrt.2, hrt.1, .inr (.inr (.inl rfl))⟩
    have hcall := h172 Gl (E.mk 115 ⟨#[]⟩ r) hpart a
    have hxl : (stepR a r).length ≤ 24 * 24 := by
      have h1 := beh_len a (E.mk 115 ⟨#[]⟩ r)
      have h2 := leaves_sum hrt.2
      rw [leaves_eq, hbeh] at h1
      have h3 := hrt.1
      simp [E.op, E.kids] at h1
      omega
    rw [hbeh] at hcall
    obtain ⟨xs, hxs⟩ : ∃ xs, stepR a r = xs := ⟨_, rfl⟩
    rw [hxs] at hcall hxl
    have hxt : ∀ x ∈ xs, TameR x := by rw [← hxs]; exact hn r hrl
    have hav : (E.mk 115 ⟨#[]⟩ r).av = .agg [.pv (.val (.int .u8 115)), .pv (.val (.string ⟨#[]⟩)), rV r] := by simp [E.av, E.cells, E.op, E.name, E.kids]
    rw [hav] at hcall
    refine hC.go [] 60 ?_
    simp
    refine hC.mapEntry 9 (.loc 13) rfl rfl (by simp; rfl) ?_
    refine hC.go [] 60 ?_
    simp
    refine hC.call [] hcall (by simp) ?_
    refine hC.go [] 60 ?_
    simp
    refine go_loop (ι := {x : Nat × List Rest // x.1 ≤ xs.length ∧ x.2.Nodup ∧ (∀ y, y ∈ x.2 ↔ (∃ s ∈ l, s ∉ r1 ++ r :: r2 ∧ y ∈ stepR a s) ∨ y ∈ xs.take x.1)})
      (fun x => ⟨[(1, vS a), (5, .hmap (.can 0)), (13, .ptr (.loc 13) 0), (22, .pv (restsV xs)), (23, vI xs.length), (24, vI x.1.1)], [(.can 0, some (.gen (mapG Tryz.prog 9 (entsOf x.1.2)))), (.loc 13, some (.gen (iterG Tryz.prog 9 (entsOf l) (entsOf (r1 ++ r2)) (some (.string (rtext r), rV r)))))]⟩)
      (fun x => xs.length - x.1.1) ⟨(0, lo), by simp, hx3, fun y => by simp only [List.take_zero, List.not_mem_nil, or_false]; exact hx4 y⟩ [] (by simp) fun x ihj => ?_
    obtain ⟨⟨j, lo'⟩, hj, hj2, hj3⟩ := x
    simp only at hj hj2 hj3 ihj
    have hlt' : ∀ y ∈ lo', TameR y := fun y hy => by
      rcases (hj3 y).1 hy with ⟨s, h1, _, h2⟩ | h
      · exact hn s h1 y h2
      · exact hxt y (List.mem_of_mem_take h)
    by_cases hjl : j < xs.length
    · have hw := wr64 ((j : Int) + 1) (by omega)
      have hxj := hxt xs[j] (by simp)
      have hsz := rtext_size hxj
      refine hC.go [] 60 ?_
      simp [hjl]
      refine hC.call [] (h134 Gl xs[j] hxj) (by simp) ?_
      refine hC.go [] 60 ?_
      simp
      refine hC.mapPut Tryz.underlying205 (Maps.string_keyed Tryz.underlying9) (.can 0) (entsOf (addR lo' xs[j])) (.inl rfl) (key_one _) (key_st9 _ (by simp only [maxLen]; omega)) (putG_add hlt' hxj) (by simp) ?_
      refine hC.go [] 60 ?_
      simp
      refine go_to [] (ihj ⟨(j + 1, addR lo' xs[j]), hjl, addR_nodup hj2 _, fun y => ?_⟩ (by simp; omega)) (by simp [hw])
      rw [addR_mem, hj3 y, List.take_add_one, List.getElem?_eq_getElem hjl, List.mem_append]
      simp only [Option.toList_some, List.mem_singleton, or_assoc]
    · have htk : xs.take j = xs := List.take_of_length_le (by omega)
      rw [htk] at hj3
      refine hC.go [] 60 ?_
      simp [hjl]
      refine go_to [] (ih ⟨((r1 ++ r2, some (.string (rtext r), rV r)), lo'), fun x hx => hx1 x (by simp at hx ⊢; rcases hx with h | h <;> simp [h]), ?_, hj2, fun y => ?_⟩ (by simp)) (by simp)
      · exact (List.nodup_cons.1 (List.perm_middle.nodup_iff.1 hx2)).2
      · have hrn : r ∉ r1 ++ r2 := (List.nodup_cons.1 (List.perm_middle.nodup_iff.1 hx2)).1
        rw [hj3 y, ← hxs]
        constructor
        · rintro (⟨s, h1, h2, h3⟩ | h)
          · exact ⟨s, h1, fun q => h2 (by simp at q ⊢; rcases q with q | q <;> simp [q]), h3⟩
          · exact ⟨r, hrl, hrn, h⟩
        · rintro ⟨s, h1, h2, h3⟩
          by_cases hsr : s = r
          · exact .inr (hsr ▸ h3)
          · exact .inl ⟨s, h1, fun q => h2 (by simp at q ⊢; rcases q with q | q | q; exact .inl q; exact absurd q hsr; exact .inr q), h3⟩
open Go.RowKit Go.Sort Go.Maps
theorem h171 (Gl : Granted) (l : List Rest) : Fun Tryz.prog Gl 171 [.pv (.opq (mapAt (mapG Tryz.prog 9 (entsOf l))))] [] (.opq (KSt l)) [] := by
  refine ⟨⟨_, Tryz.func171, by kernel_rfl, rfl⟩, fun w0 F0 hd0 cargs hg hl hlen hr => ?_⟩
  have hd := dead_hd hl
  subst hd
  match cargs, hlen with
  | [c], _ =>
    have h0 := hr 0 _ c rfl rfl
    cases h0 with
    | pv _ _ hp => cases hp with
      | opq _ _ h1 hQ =>
        obtain ⟨b, o, rfl, hF, ho, hq⟩ := hQ w0 F0 (fun _ _ => rfl) (fun _ h => h)
        refine (callsIn_wide.1 (AnyZ.keys_in (ρ := Tryz.keys171_ren) Tryz.keys171 Fence.wide 0 trivial rfl (some b) w0)).mono fun e w' ⟨he, hw⟩ => ?_
        subst hw
        have hbl := hl.fin b hF
        have hold : ∀ k, k < w0.heap.size → (w0.alloc (.cells #[.map (some b)] 205)).heap[k]? = w0.heap[k]? := fun k hk => Below.heap_alloc _ _ _ hk
        have hsz : (w0.alloc (.cells #[.map (some b)] 205)).heap.size = w0.heap.size + 1 := by simp
        refine ⟨_, fun k => F0 k ∨ k = w0.heap.size, fun _ => .dead, he, .opq _ _ rfl fun w2 F2 h1 h2 => ?_, ⟨fun k hk => ?_, fun r s k _ h => h.elim, fun r k h => h.elim, fun r => rfl⟩,
          ⟨fun r k h => h.elim, fun k hk => ?_, fun k hk => .inl hk, fun i => .inl rfl, rfl, rfl, rfl, by show w0.heap.size ≤ (w0.alloc (.cells #[.map (some b)] 205)).heap.size; rw [hsz]; omega, fun k hk _ => hold k hk⟩⟩
        · refine KSt.mono (w := w0.alloc (.cells #[.map (some b)] 205)) (F := fun k => F0 k ∨ k = w0.heap.size) ⟨w0.heap.size, b, o, rfl, .inr rfl, heap_alloc_new w0 _, .inl hF, (hold b hbl).trans ho, mapG_mono hq (fun k hk => hold k (hl.fin k hk)) (fun k hk => .inl hk)⟩ h1 h2
        · show k < (w0.alloc (.cells #[.map (some b)] 205)).heap.size
          rw [hsz]
          rcases hk with hk | rfl
          · have := hl.fin k hk; omega
          · omega
        · rcases hk with hk | rfl
          · exact .inl hk
          · exact .inr (.inl (Nat.le_refl _))
theorem gives_state {l : List Rest} (hl : l.length ≤ 1000000) {w : World} {F : Nat → Prop} {v : Value} (hF : ∀ k, F k → k < w.heap.size) (h : KSt l w F v) : GivesQ (l.map rtext) w v := by
  obtain ⟨kb, b, o, rfl, hkb, hcell, hb, ho, hq⟩ := h
  obtain ⟨D, hown, hsz, hperm⟩ := mapG_owns Tryz.underlying9 hq ho (by rw [List.length_map]; simp only [maxLen]; omega)
  refine ⟨199, #[.pointer (some ⟨kb, 0, none⟩)], rfl, enters_of Tryz.func199 (by kernel_rfl) rfl, ?_⟩
  have hs := AnyZ.keys_gives (ρ := Tryz.keys171_ren) { Tryz.keys171 with } Fence.wide 2 trivial rfl (by omega) kb b (entsOf l).length D w (hF kb hkb) (by simp [World.cell?, hcell]) hown
  rw [hsz] at hs
  have hp : (strKeys D).Perm ((l.map rtext).map (·.data.toList)) := by
    have h2 := hperm.map fun v : Value => match v with
      | .string s => s.data.toList
      | _ => []
    simp only [List.map_map, Function.comp_def] at h2 ⊢
    simpa using h2
  have hlen : (entsOf l).length = (l.map rtext).length := by simp
  rw [hlen] at hs
  intro lo J W h1 h2 h3 h4
  refine (hs lo J W h1 h2 h3 h4).mono ?_
  rintro e W' ⟨h5, xs, h6, h7⟩
  exact ⟨h5, xs, h6.trans hp, h7⟩
set_option maxRecDepth 20000 in
theorem h135 (Gl : Granted) (S : Stt) (hS : ∀ r, S r → TameR r) (hN : ∀ l, Lists S l → l.length ≤ 1000) : Fun Tryz.prog Gl 135 [.pv (stV S)] [] (vS (skey S)) [] := by
  refine fun_of (T := T5) (n := 7) (rs := [.tmp 2]) Tryz.func135 (by kernel_rfl) rfl rfl rfl tok5 mixed (by simp) fun C hC => ?_
  refine go_state 0 S (by simp) fun l hl => ?_
  have ht : ∀ r ∈ l, TameR r := fun r hr => hS r ((hl.2 r).1 hr)
  have hll := hN l hl
  have hk : skey S = joinB (sortB (l.map rtext)) ⟨#[59]⟩ := skey_eq hl
  have hsz : (joinB (sortB (l.map rtext)) ⟨#[59]⟩).size ≤ 140737488355328 := by
    refine Nat.le_trans (join_size _ _) ?_
    have e59 : (⟨#[59]⟩ : ByteArray).size = 1 := rfl
    have hb : ∀ x ∈ sortB (l.map rtext), x.size ≤ 10000 := fun x hx => by
      rw [sortB_mem] at hx
      obtain ⟨r, hr, rfl⟩ := List.mem_map.1 hx
      exact rtext_size (ht r hr)
    have hlen : (sortB (l.map rtext)).length ≤ 1000 := by rw [sortB_len]; simpa using hll
    have key : ∀ m : List ByteArray, (∀ x ∈ m, x.size ≤ 10000) → (m.map fun x => x.size + (⟨#[59]⟩ : ByteArray).size).sum ≤ 10001 * m.length := by
      intro m
      induction m with
      | nil => simp
      | cons x m ih =>
        intro hm
        have h1 := ih fun y hy => hm y (by simp [hy])
        have h2 := hm x (by simp)
        simp only [List.map_cons, List.sum_cons, List.length_cons, e59] at h1 ⊢
        omega
    have := key _ hb
    omega
  have hcall := h48it Gl (l.map rtext) (by rw [List.length_map]; omega) (KSt l) (fun w F v hF h => gives_state (by omega) hF h)
  have hlen : (sortB (l.map rtext)).length ≤ 1000 := by rw [sortB_len]; simpa using hll
  rw [hk] at hC
  generalize sortB (l.map rtext) = ts at *
  refine hC.go [] 60 ?_
  simp
  refine hC.call [] (h171 Gl l) (by simp) ?_
  refine hC.go [] 60 ?_
  simp
  refine hC.call [] hcall (by simp) ?_
  refine hC.go [] 60 ?_
  simp
  refine hC.call [] (f39 Gl ts ⟨#[59]⟩ (by omega) hsz) (by simp) ?_
  refine hC.go [] 60 ?_
  simp
end Go.Proofs.D
