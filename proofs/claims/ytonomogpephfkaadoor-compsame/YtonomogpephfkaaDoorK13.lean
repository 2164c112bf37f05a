/-
  THE LAW'S OWN FUNCTIONS: can a complement be gone through?
-/
import Derived.Test.YtonomogpephfkaaDoorK11
import Derived.Test.YtonomogpephfkaaDoorK12
set_option linter.unusedVariables false
set_option linter.unusedSimpArgs false
set_option linter.unusedSimpArgs false
namespace Go.Proofs.D
open Go Go.Abs Go.RowKit
attribute [local simp] VC stepV stepTop stepReg stepOp stMove stPick stBin stUn stConv stBox stAlloc stLoad stStore stFieldAddr stField stExtract stNilCheck stMakeFunc stIndexAddr stIndex stLen
  stBuild placesOf fillA stBuildSlice sliceCells repL chunks allPV toPV drawOk drawOk.go mayMakeO mayMake1 disjoint pairOk Oper.apart Oper.looksAt Op.operands Call.operands Region.binds stAppend appBase appTail unName stSlice bndA
  LS.ev LS.get LS.blk LS.put LS.app LS.upd lkS lkH setS setH Nm.eqb guardOf nexts okPair dstOk AV.cellsOf takeAt putAt lkT sliceE fieldT intK isStrT isBoolT abin newOk LS.freshB LS.freshB.go LS.freshB.goH notIn AV.ments AV.ments.mentsL Blk.ments makes upsMents LS.start startL exitTo T T3 outs callSideO callSideD upsR backO freshAll argB onlyIO List.map List.append List.nil_append List.cons_append Nat.blt
  conv convS convH srcs srcOf blkOk leA leA.leL leB leP laid laidM isArg subH retP resAV resL res1 AV.frz AV.frz.frzL evL AV.ren AV.ren.renL Blk.ren renBs blksOf allSome nodupB onlyArgs blksMents callUps keyed inName inName.go backName callSide
theorem slotWt_drop {l : List Ent} {i : Nat} (h : i < l.length) : ((l.drop i).map Ent.wt).sum = l[i].wt + ((l.drop (i + 1)).map Ent.wt).sum := by
  rw [List.drop_eq_getElem_cons h]; simp
theorem compWt_drop {c : Cm} {i : Nat} (h : i < c.length) : compWt (c.drop i) = slotWt c[i] + compWt (c.drop (i + 1)) := by
  rw [List.drop_eq_getElem_cons h]; simp [compWt]
theorem f36x (Gl : Granted) (l : List N) (left : Int) (hs : ∀ x ∈ l, x.small) (h1 : -1000000000000000 ≤ left) (h2 : left ≤ 1000000) : Fun Tryd.prog Gl 36 [.agg [vS ⟨#[]⟩, vS ⟨#[]⟩, .pv (.nilS 1), .pv (.nilS 2), .pv (nodes l)], vI left] [] (vI (lessB left (1 + N.wt.go l))) [] := by
  have h := f36 Gl (.mk ⟨#[]⟩ ⟨#[]⟩ [] [] l) left ((N.small_eq _).2 ⟨Nat.zero_le _, Nat.zero_le _, by simp [N.marks], by simp [N.attrs], hs⟩) h1 h2
  have hw : (N.mk ⟨#[]⟩ ⟨#[]⟩ [] [] l).wt = 1 + N.wt.go l := by
    rw [N.wt_eq]
    simp only [N.kind, N.text, N.marks, N.attrs, N.kids, names1, attrs1, List.map_nil, List.sum_nil]
    have h0 : (⟨#[]⟩ : ByteArray).size = 0 := rfl
    omega
  rw [hw] at h
  exact fun_nils h
def Ent.small (e : Ent) : Prop := e.value.size ≤ M47 ∧ ∀ x ∈ e.rest, x.small
set_option maxRecDepth 20000 in
set_option maxHeartbeats 2000000 in
theorem f22 (Gl : Granted) (c : Cm) (hs : ∀ l ∈ c, ∀ e ∈ l, Ent.small e) : Fun Tryd.prog Gl 22 [.pv (comp c)] [] (vB (decide (compWt c < 1500))) [] := by
  refine fun_of (T := T3) (n := 54) (rs := [.tmp 2]) Tryd.func22 (by kernel_rfl) rfl rfl rfl tok3 mixed (by simp) fun C hC => ?_
  refine hC.vc [] 60 ?_
  simp
  refine go_len 0 1 (c.map fun l => [slot l]) (by simp) fun hcl => ?_
  rw [List.length_map] at hcl
  refine go_loop (ι := {x : Nat × Int // x.1 ≤ c.length ∧ -1000000000000000 ≤ x.2 ∧ x.2 ≤ 1500 ∧ (x.2 - compWt (c.drop x.1) = 1500 - compWt c ∨ (x.2 ≤ 0 ∧ 1500 - (compWt c : Int) < 1))}) (fun x => ⟨[(0, .pv (comp c)), (3, vI x.1.2), (4, vI x.1.1)], []⟩)
    (fun x => c.length - x.1.1) ⟨(0, 1500), by simp⟩ [] (by simp) fun x ih => ?_
  obtain ⟨⟨i, l⟩, hi, hb1, hb2, hD⟩ := x
  simp only at hi hb1 hb2 hD ih
  by_cases hgo : i < c.length ∧ 0 < l
  · obtain ⟨hlt, hp⟩ := hgo
    have hwi := wr64 ((i : Int) + 1) (by omega)
    have v1 := wr64 (l - 1) (by omega)
    have hd := compWt_drop hlt
    refine hC.vc [] 60 ?_
    simp [hlt, hp, v1]
    refine go_loop (ι := {x : Nat × Int // x.1 ≤ c[i].length ∧ -1000000000000000 ≤ x.2 ∧ x.1 + x.2 ≤ 1500 ∧ (x.2 - ((c[i].drop x.1).map Ent.wt).sum - compWt (c.drop (i + 1)) = 1500 - compWt c ∨ (x.2 ≤ 0 ∧ 1500 - (compWt c : Int) < 1))}) (fun x => ⟨[(0, .pv (comp c)), (3, vI x.1.2), (4, vI i), (5, vI x.1.1)], []⟩)
      (fun x => c[i].length - x.1.1) ⟨(0, l - 1), by
        simp only [List.drop_zero, Nat.zero_le, true_and]
        unfold slotWt at hd
        omega⟩ [] (by simp) fun x ih2 => ?_
    obtain ⟨⟨k, m⟩, hk, hc1, hc2, hE⟩ := x
    simp only at hk hc1 hc2 hE ih2
    by_cases hgo2 : k < c[i].length ∧ 0 < m
    · obtain ⟨hlk, hpm⟩ := hgo2
      obtain ⟨t1, t2⟩ := hs c[i] (by simp) c[i][k] (by simp)
      have e47 : M47 = 140737488355328 := rfl
      rw [e47] at t1
      have v2 := wr64 (m - c[i][k].value.size) (by omega)
      have hd2 := slotWt_drop hlk
      have hew : c[i][k].wt = 1 + c[i][k].value.size + N.wt.go c[i][k].rest := rfl
      obtain ⟨r, hr⟩ : ∃ r, lessB (m - c[i][k].value.size) (1 + N.wt.go c[i][k].rest) = r := ⟨_, rfl⟩
      have hf := f36x Gl c[i][k].rest (m - c[i][k].value.size) t2 (by omega) (by omega)
      rw [hr] at hf
      unfold lessB at hr
      refine hC.vc [] 60 ?_
      simp [hlt, hlk, hpm, Ent.pv_eq, v2]
      refine hC.call [] hf (by simp) ?_
      have hwk := wr64 ((k : Int) + 1) (by omega)
      refine hC.vc [] 60 ?_
      simp
      refine go_to [] (ih2 ⟨(k + 1, r), by dsimp only; omega, ?_⟩ (by simp; omega)) (by simp [hwk])
      dsimp only
      split at hr <;> omega
    · have hE2 : m - compWt (c.drop (i + 1)) = 1500 - compWt c ∨ (m ≤ 0 ∧ 1500 - (compWt c : Int) < 1) := by
        rcases hE with hE | hE
        · by_cases hlk : k < c[i].length
          · right; constructor <;> omega
          · left
            rw [List.drop_eq_nil_of_le (by omega)] at hE
            simp only [List.map_nil, List.sum_nil] at hE
            omega
        · exact .inr hE
      refine hC.vc [] 60 ?_
      by_cases hlk : k < c[i].length
      · have hq : ¬ 0 < m := fun h => hgo2 ⟨hlk, h⟩
        simp [hlt, hlk, hq]
        exact go_to [] (ih ⟨(i + 1, m), by dsimp only; omega, hc1, by dsimp only; omega, hE2⟩ (by simp; omega)) (by simp [hwi])
      · simp [hlt, hlk]
        exact go_to [] (ih ⟨(i + 1, m), by dsimp only; omega, hc1, by dsimp only; omega, hE2⟩ (by simp; omega)) (by simp [hwi])
  · have hfin : decide (compWt c < 1500) = decide (0 < l) := by
      have : compWt c < 1500 ↔ 0 < l := by
        by_cases hlt : i < c.length
        · constructor <;> intro h <;> omega
        · rw [List.drop_eq_nil_of_le (by omega)] at hD
          simp only [compWt, List.map_nil, List.sum_nil] at hD
          constructor <;> intro h <;> simp only [compWt] at * <;> omega
      exact decide_eq_decide.2 this
    rw [hfin] at hC
    refine hC.vc [] 60 ?_
    by_cases hlt : i < c.length
    · have hq : ¬ 0 < l := fun h => hgo ⟨hlt, h⟩
      simp [hlt, hq]
    · simp [hlt]
end Go.Proofs.D
