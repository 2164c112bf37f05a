/-
  THE LAW'S OWN FUNCTIONS: are two expressions one?
-/
import Derived.Test.YtonomogpephfkaaDoorD2
set_option linter.unusedVariables false
set_option linter.unusedSimpArgs false
namespace Go.Proofs.D
open Go Go.Abs
attribute [local simp] VC stepV stepTop stepReg stepOp stMove stPick stBin stUn stConv stBox stAlloc stLoad stStore stFieldAddr stField stExtract stNilCheck stMakeFunc stIndexAddr stIndex stLen
  stBuild placesOf fillA stBuildSlice sliceCells repL chunks allPV toPV drawOk drawOk.go mayMakeO mayMake1 disjoint pairOk Oper.apart Oper.looksAt Op.operands Call.operands Region.binds stAppend appBase appTail unName stSlice bndA
  LS.ev LS.get LS.blk LS.put LS.app LS.upd lkS lkH setS setH Nm.eqb guardOf nexts okPair dstOk AV.cellsOf takeAt putAt lkT sliceE fieldT intK isStrT isBoolT abin newOk LS.freshB LS.freshB.go LS.freshB.goH notIn AV.ments AV.ments.mentsL Blk.ments makes upsMents LS.start startL exitTo T Nat.blt
  conv convS convH srcs srcOf blkOk leA leA.leL leB leP laid laidM isArg subH retP resAV resL res1 AV.frz AV.frz.frzL evL AV.ren AV.ren.renL Blk.ren renBs blksOf allSome nodupB onlyArgs blksMents callUps keyed inName inName.go backName callSide
def sameL : List E → List E → Bool
  | [], [] => true
  | .mk o n k :: l, .mk o' n' k' :: l' => decide (o = o') && decide (n = n') && sameL k k' && sameL l l'
  | _, _ => false
def E.same (a b : E) : Bool := sameL [a] [b]
theorem same_eq (a b : E) : a.same b = (decide (a.op = b.op) && decide (a.name = b.name) && sameL a.kids b.kids) := by
  obtain ⟨o, n, k⟩ := a
  obtain ⟨o', n', k'⟩ := b
  simp only [E.same, sameL, Bool.and_true]
  rfl
theorem sameL_cons (x y : E) (l m : List E) : sameL (x :: l) (y :: m) = (x.same y && sameL l m) := by
  obtain ⟨o, n, k⟩ := x
  obtain ⟨o', n', k'⟩ := y
  simp [E.same, sameL]
theorem sameL_len : ∀ (l m : List E), ¬ (l.length : Int) = m.length → sameL l m = false
  | [], [], h => by simp at h
  | [], y :: m, _ => by simp [sameL]
  | x :: l, [], _ => by obtain ⟨o, n, k⟩ := x; simp [sameL]
  | x :: l, y :: m, h => by rw [sameL_cons, sameL_len l m (by simp at h; omega)]; simp
set_option maxRecDepth 20000 in
theorem f15 (Gl : Granted) (a b : E) : Fun Tryd.prog Gl 15 [a.av, b.av] [] (vB (a.same b)) [] := by
  refine fun_of (T := T) (n := 46) (rs := [.tmp 4]) Tryd.func15 (by kernel_rfl) rfl rfl rfl tok mixed (by simp) fun C hC => ?_
  by_cases h1 : a.op = b.op
  · by_cases h2 : a.name = b.name
    · by_cases h3 : (a.kids.length : Int) = b.kids.length
      · have hsm : a.same b = sameL a.kids b.kids := by simp [same_eq, h1, h2]
        have h3' : a.kids.length = b.kids.length := by omega
        refine hC.vc [] 100 ?_
        simp [E.av, E.cells, h1, h2, h3]
        refine go_len 20 3 (a.kids.map E.pv) (by simp) fun hk => ?_
        rw [List.length_map] at hk
        refine go_loop (ι := {i : Nat // i ≤ a.kids.length ∧ a.same b = sameL (a.kids.drop i) (b.kids.drop i)}) (fun x => ⟨[(2, .ptr (.loc 2) 0), (3, .ptr (.loc 3) 0), (4, vB false), (5, vI x.1)], [(.loc 2, some (.box 25 [.pv (.val (.int .u8 b.op)), .pv (.val (.string b.name)), .pv (.ro 3 (a.kids.map E.pv))])), (.loc 3, some (.box 31 [.pv (.val (.int .u8 b.op)), .pv (.val (.string b.name)), .pv (.ro 3 (b.kids.map E.pv))]))]⟩)
          (fun x => a.kids.length - x.1) ⟨0, by simp [hsm]⟩ [] (by simp) fun x ih => ?_
        obtain ⟨i, hi, hn⟩ := x
        simp only at hi hn ih
        refine hC.vc [] 60 ?_
        simp [h3']
        by_cases hlt : i < b.kids.length
        · have hlt' : i < a.kids.length := by omega
          rw [List.drop_eq_getElem_cons hlt', List.drop_eq_getElem_cons hlt, sameL_cons] at hn
          simp [hlt, hlt', E.pv_eq]
          refine hC.call [] (f15 Gl a.kids[i] b.kids[i]) (by simp [E.av, E.cells]) ?_
          refine hC.vc [] 60 ?_
          cases hs : a.kids[i].same b.kids[i]
          · simp [hn, hs]
          · simp
            have hw := wr64 ((i : Int) + 1) (by omega)
            rw [hs, Bool.true_and] at hn
            exact go_to [] (ih ⟨i + 1, hlt', hn⟩ (by simp; omega)) (by simp [hw])
        · simp [hlt]
          rw [hn, List.drop_eq_nil_of_le (by omega), List.drop_eq_nil_of_le (by omega)]
          simp [sameL]
      · refine hC.vc [] 100 ?_
        simp [E.av, E.cells, h1, h2, h3, same_eq, sameL_len _ _ h3]
    · refine hC.vc [] 100 ?_
      simp [E.av, E.cells, h1, h2, same_eq]
  · refine hC.vc [] 100 ?_
    simp [E.av, E.cells, h1, same_eq]
termination_by SizeOf.sizeOf a
decreasing_by exact E.kids_lt (by simp)
end Go.Proofs.D
/-
  THE LAW'S OWN FUNCTIONS: how heavy an expression is.
-/
set_option linter.unusedVariables false
set_option linter.unusedSimpArgs false
namespace Go.Proofs.D
open Go Go.Abs
attribute [local simp] VC stepV stepTop stepReg stepOp stMove stPick stBin stUn stConv stBox stAlloc stLoad stStore stFieldAddr stField stExtract stNilCheck stMakeFunc stIndexAddr stIndex stLen
  stBuild placesOf fillA stBuildSlice sliceCells repL chunks allPV toPV drawOk drawOk.go mayMakeO mayMake1 disjoint pairOk Oper.apart Oper.looksAt Op.operands Call.operands Region.binds stAppend appBase appTail unName stSlice bndA
  LS.ev LS.get LS.blk LS.put LS.app LS.upd lkS lkH setS setH Nm.eqb guardOf nexts okPair dstOk AV.cellsOf takeAt putAt lkT sliceE fieldT intK isStrT isBoolT abin newOk LS.freshB LS.freshB.go LS.freshB.goH notIn AV.ments AV.ments.mentsL Blk.ments makes upsMents LS.start startL exitTo T Nat.blt
  conv convS convH srcs srcOf blkOk leA leA.leL leB leP laid laidM isArg subH retP resAV resL res1 AV.frz AV.frz.frzL evL AV.ren AV.ren.renL Blk.ren renBs blksOf allSome nodupB onlyArgs blksMents callUps keyed inName inName.go backName callSide
def E.light : E → Int → Int
  | .mk _ n k, left => if go k (wr .i64 (wr .i64 (left - 1) - wr .i64 ((n.size : Int) / 20))) < 1 then -1 else go k (wr .i64 (wr .i64 (left - 1) - wr .i64 ((n.size : Int) / 20)))
where go : List E → Int → Int
  | [], l => l
  | x :: m, l => if 0 < l then go m (x.light l) else l
theorem light_eq (e : E) (left : Int) : e.light left = if E.light.go e.kids (wr .i64 (wr .i64 (left - 1) - wr .i64 ((e.name.size : Int) / 20))) < 1 then -1 else E.light.go e.kids (wr .i64 (wr .i64 (left - 1) - wr .i64 ((e.name.size : Int) / 20))) := by
  obtain ⟨o, n, k⟩ := e
  simp only [E.light, E.kids, E.name]
  rfl
theorem go_lenB {C : Ctx} {todo : List Item} {L : LS} (r : Nm) (ty : Nat) (cs : List AV) (j sz : Nat) (es : List (List PV)) (hb : L.blk r = some (.box ty cs)) (hj : cs[j]? = some (.pv (.ro sz es))) (h : es.length ≤ 9223372036854775807 → Go C (.top todo L)) : Go C (.top todo L) := by
  intro hd F a w hi cs'
  have hs := hi.blocks r
  rw [hb] at hs
  obtain ⟨k, arr, _, _, h3, h4, _⟩ := hs
  have hlt : j < arr.size := by rw [h3]; exact (List.getElem?_eq_some_iff.1 hj).1
  have hv := h4 j _ arr[j] hj (by simp [hlt])
  generalize arr[j] = v at hv
  cases hv with
  | pv _ _ hp => cases hp with
    | ro _ _ A cap u hA hc hm => exact h hm hd F a w hi cs'
set_option maxRecDepth 20000 in
theorem f16 (Gl : Granted) (e : E) (left : Int) : Fun Tryd.prog Gl 16 [e.av, vI left] [] (vI (e.light left)) [] := by
  refine fun_of (T := T) (n := 34) (rs := [.tmp 4]) Tryd.func16 (by kernel_rfl) rfl rfl rfl tok mixed (by simp) fun C hC => ?_
  refine hC.vc [] 100 ?_
  simp [E.av, E.cells]
  obtain ⟨l0, hl0⟩ : ∃ l0, wr .i64 (wr .i64 (left - 1) - wr .i64 ((e.name.size : Int) / 20)) = l0 := ⟨_, rfl⟩
  have hlt := light_eq e left
  rw [hl0] at hlt ⊢
  refine go_lenB (.loc 2) 25 e.cells 2 3 (e.kids.map E.pv) (by simp [E.cells]) (by simp [E.cells]) fun hlen => ?_
  rw [List.length_map] at hlen
  refine go_loop (ι := {x : Nat × Int // x.1 ≤ e.kids.length ∧ E.light.go e.kids l0 = E.light.go (e.kids.drop x.1) x.2}) (fun x => ⟨[(1, vI x.1.2), (2, .ptr (.loc 2) 0), (4, vI 0), (5, vI x.1.1)], [(.loc 2, some (.box 25 e.cells))]⟩)
    (fun x => e.kids.length - x.1.1) ⟨(0, l0), by simp⟩ [] (by simp [E.cells]) fun x ih => ?_
  obtain ⟨⟨i, l⟩, hi, hn⟩ := x
  simp only at hi hn ih
  refine hC.vc [] 60 ?_
  by_cases hk : i < e.kids.length
  · rw [List.drop_eq_getElem_cons hk] at hn
    simp only [E.light.go] at hn
    by_cases hp : 0 < l
    · rw [if_pos hp] at hn
      simp [hk, hp, E.cells, E.pv_eq]
      refine hC.call [] (f16 Gl e.kids[i] l) (by simp [E.av, E.cells]) ?_
      refine hC.vc [] 40 ?_
      simp
      have hw := wr64 ((i : Int) + 1) (by omega)
      exact go_to [] (ih ⟨(i + 1, _), hk, hn⟩ (by simp; omega)) (by simp [hw, E.cells])
    · rw [if_neg hp] at hn
      have : l < 1 := by omega
      simp [hk, hp, E.cells, hlt, hn, this]
  · rw [List.drop_eq_nil_of_le (by omega)] at hn
    simp only [E.light.go] at hn
    by_cases h1 : l < 1
    · simp [hk, E.cells, hlt, hn, h1]
    · simp [hk, E.cells, hlt, hn, h1]
termination_by SizeOf.sizeOf e
decreasing_by exact E.kids_lt (by simp)
end Go.Proofs.D
