/-
  THE LAW'S OWN FUNCTIONS: how heavy a node, a complement is.
-/
import Derived.Test.YtonomogpephfkaaDoorK4
import Derived.Test.YtonomogpephfkaaDoorK11
set_option linter.unusedVariables false
set_option linter.unusedSimpArgs false
set_option linter.unusedSimpArgs false
namespace Go.Proofs.D
open Go Go.Abs Go.RowKit
attribute [local simp] VC stepV stepTop stepReg stepOp stMove stPick stBin stUn stConv stBox stAlloc stLoad stStore stFieldAddr stField stExtract stNilCheck stMakeFunc stIndexAddr stIndex stLen
  stBuild placesOf fillA stBuildSlice sliceCells repL chunks allPV toPV drawOk drawOk.go mayMakeO mayMake1 disjoint pairOk Oper.apart Oper.looksAt Op.operands Call.operands Region.binds stAppend appBase appTail unName stSlice bndA
  LS.ev LS.get LS.blk LS.put LS.app LS.upd lkS lkH setS setH Nm.eqb guardOf nexts okPair dstOk AV.cellsOf takeAt putAt lkT sliceE fieldT intK isStrT isBoolT abin newOk LS.freshB LS.freshB.go LS.freshB.goH notIn AV.ments AV.ments.mentsL Blk.ments makes upsMents LS.start startL exitTo T T3 outs callSideO callSideD upsR backO freshAll argB onlyIO List.map List.append List.nil_append List.cons_append Nat.blt
  conv convS convH srcs srcOf blkOk leA leA.leL leB leP laid laidM isArg subH retP resAV resL res1 AV.frz AV.frz.frzL evL AV.ren AV.ren.renL Blk.ren renBs blksOf allSome nodupB onlyArgs blksMents callUps keyed inName inName.go backName callSide
/-- What is left of left behind a weight. -/
def lessB (left : Int) (w : Nat) : Int := if left - w < 1 then -1 else left - w
theorem names1_drop {l : List ByteArray} {i : Nat} (h : i < l.length) : names1 (l.drop i) = 1 + l[i].size + names1 (l.drop (i + 1)) := by
  rw [List.drop_eq_getElem_cons h]; simp [names1]
theorem attrs1_drop {l : List (ByteArray × ByteArray)} {i : Nat} (h : i < l.length) : attrs1 (l.drop i) = 1 + l[i].1.size + l[i].2.size + attrs1 (l.drop (i + 1)) := by
  rw [List.drop_eq_getElem_cons h]; simp [attrs1]
theorem wtgo_drop {l : List N} {i : Nat} (h : i < l.length) : N.wt.go (l.drop i) = l[i].wt + N.wt.go (l.drop (i + 1)) := by
  rw [List.drop_eq_getElem_cons h]; simp [N.wt.go]
set_option maxRecDepth 20000 in
set_option maxHeartbeats 2000000 in
theorem f36 (Gl : Granted) (n : N) (left : Int) (hs : n.small) (h1 : -1000000000000000 ≤ left) (h2 : left ≤ 1000000) : Fun Tryd.prog Gl 36 [n.av, vI left] [] (vI (lessB left n.wt)) [] := by
  obtain ⟨s1, s2, s3, s4, s5⟩ := (N.small_eq n).1 hs
  have hrec : ∀ x ∈ n.kids, ∀ l : Int, -1000000000000000 ≤ l → l ≤ 1000000 → Fun Tryd.prog Gl 36 [x.av, vI l] [] (vI (lessB l x.wt)) [] := fun x hx l a b => f36 Gl x l (s5 x hx) a b
  have hwt := N.wt_eq n
  have e47 : M47 = 140737488355328 := rfl
  rw [e47] at s1 s2 s3 s4
  have w1 := wr64 (left - 1) (by omega)
  have w2 := wr64 (left - 1 - n.kind.size) (by omega)
  have w3 := wr64 (left - 1 - n.kind.size - n.text.size) (by omega)
  refine fun_of (T := T3) (n := 88) (rs := [.tmp 4]) Tryd.func36 (by kernel_rfl) rfl rfl rfl tok3 mixed (by simp) fun C hC => ?_
  refine hC.vc [] 60 ?_
  simp [N.av, N.cells, w1, w2, w3]
  refine go_loop (ι := {x : Nat × Int // x.1 ≤ n.marks.length ∧ -1000000000000000 ≤ x.2 + 600000000000000 ∧ x.2 ≤ 1000000 ∧ (x.2 - names1 (n.marks.drop x.1) - attrs1 n.attrs - N.wt.go n.kids = left - n.wt)}) (fun x => ⟨[(1, vI x.1.2), (2, .ptr (.loc 2) 0), (5, vI x.1.1)], [(.loc 2, some (.box 79 n.cells))]⟩)
    (fun x => n.marks.length - x.1.1) ⟨(0, left - 1 - n.kind.size - n.text.size), by simp; omega⟩ [] (by simp [N.cells]) fun x ih => ?_
  obtain ⟨⟨i, l⟩, hi, hb1, hb2, hD⟩ := x
  simp only at hi hb1 hb2 hD ih
  refine go_lenB (.loc 2) 79 n.cells 2 1 (n.marks.map fun s => [.val (.string s)]) (by simp [N.cells]) (by simp [N.cells]) fun hl1 => ?_
  rw [List.length_map] at hl1
  refine go_lenB (.loc 2) 79 n.cells 3 2 (n.attrs.map fun p => [.val (.string p.1), .val (.string p.2)]) (by simp [N.cells]) (by simp [N.cells]) fun hl2 => ?_
  rw [List.length_map] at hl2
  refine go_lenB (.loc 2) 79 n.cells 4 5 (n.kids.map N.pv) (by simp [N.cells]) (by simp [N.cells]) fun hl3 => ?_
  rw [List.length_map] at hl3
  by_cases hgo : i < n.marks.length ∧ 0 < l
  · obtain ⟨hlt, hp⟩ := hgo
    have hwi := wr64 ((i : Int) + 1) (by omega)
    have hsz := s3 n.marks[i] (by simp)
    have v1 := wr64 (l - 1) (by omega)
    have v2 := wr64 (l - 1 - n.marks[i].size) (by omega)
    have hd := names1_drop hlt
    refine hC.vc [] 60 ?_
    simp [N.cells, hlt, hp, v1, v2]
    exact go_to [] (ih ⟨(i + 1, l - 1 - n.marks[i].size), by dsimp only; omega, by dsimp only; omega, by dsimp only; omega, by dsimp only; omega⟩ (by simp; omega)) (by simp [hwi, N.cells])
  · -- the attributes
    have hD2 : l - attrs1 n.attrs - N.wt.go n.kids = left - n.wt ∨ (l ≤ 0 ∧ left - n.wt < 1) := by
      by_cases hlt : i < n.marks.length
      · right; constructor <;> omega
      · left
        rw [List.drop_eq_nil_of_le (by omega)] at hD
        simp only [names1, List.map_nil, List.sum_nil] at hD
        omega
    refine hC.vc [] 60 ?_
    by_cases hlt : i < n.marks.length
    all_goals
      have hp' : i < n.marks.length → ¬ 0 < l := fun h h' => hgo ⟨h, h'⟩
      first
        | (have hp0 := hp' hlt
           simp [N.cells, hlt, hp0])
        | simp [N.cells, hlt]
      refine go_loop (ι := {x : Nat × Int // x.1 ≤ n.attrs.length ∧ -1000000000000000 ≤ x.2 + 600000000000000 ∧ x.2 ≤ 1000000 ∧ (x.2 - attrs1 (n.attrs.drop x.1) - N.wt.go n.kids = left - n.wt ∨ (x.2 ≤ 0 ∧ left - n.wt < 1))}) (fun x => ⟨[(1, vI x.1.2), (2, .ptr (.loc 2) 0), (6, vI x.1.1)], [(.loc 2, some (.box 79 n.cells))]⟩)
        (fun x => n.attrs.length - x.1.1) ⟨(0, l), by simpa using ⟨hb1, hb2, hD2⟩⟩ [] (by simp [N.cells]) fun x ih2 => ?_
      obtain ⟨⟨j, m⟩, hj, hc1, hc2, hE⟩ := x
      simp only at hj hc1 hc2 hE ih2
      by_cases hgo2 : j < n.attrs.length ∧ 0 < m
      · obtain ⟨hlj, hpm⟩ := hgo2
        have hwi := wr64 ((j : Int) + 1) (by omega)
        obtain ⟨hsz1, hsz2⟩ := s4 n.attrs[j] (by simp)
        have v1 := wr64 (m - 1) (by omega)
        have v2 := wr64 (m - 1 - n.attrs[j].1.size) (by omega)
        have v3 := wr64 (m - 1 - n.attrs[j].1.size - n.attrs[j].2.size) (by omega)
        have hd := attrs1_drop hlj
        refine hC.vc [] 60 ?_
        simp [N.cells, hlj, hpm, v1, v2, v3]
        exact go_to [] (ih2 ⟨(j + 1, m - 1 - n.attrs[j].1.size - n.attrs[j].2.size), by dsimp only; omega, by dsimp only; omega, by dsimp only; omega, by dsimp only; omega⟩ (by simp; omega)) (by simp [hwi, N.cells])
      · -- the kids
        have hE2 : m - N.wt.go n.kids = left - n.wt ∨ (m ≤ 0 ∧ left - n.wt < 1) := by
          rcases hE with hE | hE
          · by_cases hlj : j < n.attrs.length
            · right; constructor <;> omega
            · left
              rw [List.drop_eq_nil_of_le (by omega)] at hE
              simp only [attrs1, List.map_nil, List.sum_nil] at hE
              omega
          · exact .inr hE
        refine hC.vc [] 60 ?_
        by_cases hlj : j < n.attrs.length
        all_goals
          have hq' : j < n.attrs.length → ¬ 0 < m := fun h h' => hgo2 ⟨h, h'⟩
          first
            | (have hq0 := hq' hlj
               simp [N.cells, hlj, hq0])
            | simp [N.cells, hlj]
          refine go_loop (ι := {x : Nat × Int // x.1 ≤ n.kids.length ∧ -1000000000000000 ≤ x.2 + 600000000000000 ∧ x.2 ≤ 1000000 ∧ (x.2 - N.wt.go (n.kids.drop x.1) = left - n.wt ∨ (x.2 ≤ 0 ∧ left - n.wt < 1))}) (fun x => ⟨[(1, vI x.1.2), (2, .ptr (.loc 2) 0), (7, vI x.1.1)], [(.loc 2, some (.box 79 n.cells))]⟩)
            (fun x => n.kids.length - x.1.1) ⟨(0, m), by simpa using ⟨hc1, hc2, hE2⟩⟩ [] (by simp [N.cells]) fun x ih3 => ?_
          obtain ⟨⟨k, q⟩, hk, hd1, hd2, hG⟩ := x
          simp only at hk hd1 hd2 hG ih3
          by_cases hgo3 : k < n.kids.length ∧ 0 < q
          · obtain ⟨hlk, hpq⟩ := hgo3
            have hwi := wr64 ((k : Int) + 1) (by omega)
            have hd := wtgo_drop hlk
            have hkp := wt_pos n.kids[k]
            refine hC.vc [] 60 ?_
            simp [N.cells, hlk, hpq, N.pv_eq]
            refine hC.call [] (hrec n.kids[k] (by simp) q (by omega) hd2) (by simp [N.av, N.cells]) ?_
            obtain ⟨r, hr⟩ : ∃ r, lessB q n.kids[k].wt = r := ⟨_, rfl⟩
            rw [hr]
            have hr' := hr
            unfold lessB at hr'
            refine hC.vc [] 60 ?_
            simp
            refine go_to [] (ih3 ⟨(k + 1, r), by dsimp only; omega, ?_⟩ (by simp; omega)) (by simp [hwi, N.cells])
            dsimp only
            split at hr' <;> omega
          · have hfin : (q < 1 → lessB left n.wt = -1) ∧ (¬ q < 1 → lessB left n.wt = q) := by
              unfold lessB
              by_cases hlk : k < n.kids.length
              · have hq : ¬ 0 < q := fun h => hgo3 ⟨hlk, h⟩
                constructor
                · intro _
                  rw [if_pos (by omega)]
                · intro h; omega
              · rw [List.drop_eq_nil_of_le (by omega)] at hG
                simp only [N.wt.go] at hG
                constructor
                · intro h; rw [if_pos (by omega)]
                · intro h; rw [if_neg (by omega)]; omega
            refine hC.vc [] 60 ?_
            by_cases hlk : k < n.kids.length
            · have hq : ¬ 0 < q := fun h => hgo3 ⟨hlk, h⟩
              have hq1 : q < 1 := by omega
              simp [N.cells, hlk, hq, hq1, hfin.1 hq1]
            · by_cases hq1 : q < 1
              · simp [N.cells, hlk, hq1, hfin.1 hq1]
              · simp [N.cells, hlk, hq1, hfin.2 hq1]
termination_by SizeOf.sizeOf n
decreasing_by exact N.kids_lt hx
end Go.Proofs.D
/-
  THE LAW'S OWN FUNCTIONS: can a complement be gone through?
-/
set_option linter.unusedVariables false
set_option linter.unusedSimpArgs false
set_option linter.unusedSimpArgs false
namespace Go.Proofs.D
open Go Go.Abs Go.RowKit
attribute [local simp] VC stepV stepTop stepReg stepOp stMove stPick stBin stUn stConv stBox stAlloc stLoad stStore stFieldAddr stField stExtract stNilCheck stMakeFunc stIndexAddr stIndex stLen
  stBuild placesOf fillA stBuildSlice sliceCells repL chunks allPV toPV drawOk drawOk.go mayMakeO mayMake1 disjoint pairOk Oper.apart Oper.looksAt Op.operands Call.operands Region.binds stAppend appBase appTail unName stSlice bndA
  LS.ev LS.get LS.blk LS.put LS.app LS.upd lkS lkH setS setH Nm.eqb guardOf nexts okPair dstOk AV.cellsOf takeAt putAt lkT sliceE fieldT intK isStrT isBoolT abin newOk LS.freshB LS.freshB.go LS.freshB.goH notIn AV.ments AV.ments.mentsL Blk.ments makes upsMents LS.start startL exitTo T T3 outs callSideO callSideD upsR backO freshAll argB onlyIO List.map List.append List.nil_append List.cons_append Nat.blt
  conv convS convH srcs srcOf blkOk leA leA.leL leB leP laid laidM isArg subH retP resAV resL res1 AV.frz AV.frz.frzL evL AV.ren AV.ren.renL Blk.ren renBs blksOf allSome nodupB onlyArgs blksMents callUps keyed inName inName.go backName callSide
theorem slotWt_drop {l : List Ent} {i : Nat} (h : i < l.length) : ((l.drop i).map Ent.wt).sum = l[i].wt + ((l.drop (i + 1)).map Ent.wt).sum := by
  rw [List.drop_eq_getElem_cons h]; simp
theorem compWt_drop {c : Cm} {i : Nat} (h : i < c.length) : compWt (c.drop i) = slotWt c[i] + compWt (c.drop (i + 1)) := by
  rw [List.drop_eq_getElem_cons h]; simp [compWt]
theorem f36x (Gl : Granted) (l : List N) (left : Int) (hs : ∀ x ∈ l, x.small) (h1 : -1000000000000000 ≤ left) (h2 : left ≤ 1000000) : Fun Tryd.prog Gl 36 [.agg [vS ⟨#[]⟩, vS ⟨#[]⟩, .pv (.nilS 1), .pv (.nilS 2), .pv (nodes l)], vI left] [] (vI (lessB left (1 + N.wt.go l))) [] := by
  have h := f36 Gl (.mk ⟨#[]⟩ ⟨#[]⟩ [] [] l) left ((N.small_eq _).2 ⟨Nat.zero_le _, Nat.zero_le _, by simp [N.marks], by simp [N.attrs], hs⟩) h1 h2
  have hw : (N.mk ⟨#[]⟩ ⟨#[]⟩ [] [] l).wt = 1 + N.wt.go l := by
    rw [N.wt_eq]
    simp only [N.kind, N.text, N.marks, N.attrs, N.kids, names1, attrs1, List.map_nil, List.sum_nil]
    have h0 : (⟨#[]⟩ : ByteArray).size = 0 := rfl
    omega
  rw [hw] at h
  exact fun_nils h
def Ent.small (e : Ent) : Prop := e.value.size ≤ M47 ∧ ∀ x ∈ e.rest, x.small
set_option maxRecDepth 20000 in
set_option maxHeartbeats 2000000 in
theorem f22 (Gl : Granted) (c : Cm) (hs : ∀ l ∈ c, ∀ e ∈ l, Ent.small e) : Fun Tryd.prog Gl 22 [.pv (comp c)] [] (vB (decide (compWt c < 1500))) [] := by
  refine fun_of (T := T3) (n := 54) (rs := [.tmp 2]) Tryd.func22 (by kernel_rfl) rfl rfl rfl tok3 mixed (by simp) fun C hC => ?_
  refine hC.vc [] 60 ?_
  simp
  refine go_len 0 1 (c.map fun l => [slot l]) (by simp) fun hcl => ?_
  rw [List.length_map] at hcl
  refine go_loop (ι := {x : Nat × Int // x.1 ≤ c.length ∧ -1000000000000000 ≤ x.2 ∧ x.2 ≤ 1500 ∧ (x.2 - compWt (c.drop x.1) = 1500 - compWt c ∨ (x.2 ≤ 0 ∧ 1500 - (compWt c : Int) < 1))}) (fun x => ⟨[(0, .pv (comp c)), (3, vI x.1.2), (4, vI x.1.1)], []⟩)
    (fun x => c.length - x.1.1) ⟨(0, 1500), by simp⟩ [] (by simp) fun x ih => ?_
  obtain ⟨⟨i, l⟩, hi, hb1, hb2, hD⟩ := x
  simp only at hi hb1 hb2 hD ih
  by_cases hgo : i < c.length ∧ 0 < l
  · obtain ⟨hlt, hp⟩ := hgo
    have hwi := wr64 ((i : Int) + 1) (by omega)
    have v1 := wr64 (l - 1) (by omega)
    have hd := compWt_drop hlt
    refine hC.vc [] 60 ?_
    simp [hlt, hp, v1]
    refine go_loop (ι := {x : Nat × Int // x.1 ≤ c[i].length ∧ -1000000000000000 ≤ x.2 ∧ x.1 + x.2 ≤ 1500 ∧ (x.2 - ((c[i].drop x.1).map Ent.wt).sum - compWt (c.drop (i + 1)) = 1500 - compWt c ∨ (x.2 ≤ 0 ∧ 1500 - (compWt c : Int) < 1))}) (fun x => ⟨[(0, .pv (comp c)), (3, vI x.1.2), (4, vI i), (5, vI x.1.1)], []⟩)
      (fun x => c[i].length - x.1.1) ⟨(0, l - 1), by
        simp only [List.drop_zero, Nat.zero_le, true_and]
        unfold slotWt at hd
        omega⟩ [] (by simp) fun x ih2 => ?_
    obtain ⟨⟨k, m⟩, hk, hc1, hc2, hE⟩ := x
    simp only at hk hc1 hc2 hE ih2
    by_cases hgo2 : k < c[i].length ∧ 0 < m
    · obtain ⟨hlk, hpm⟩ := hgo2
      obtain ⟨t1, t2⟩ := hs c[i] (by simp) c[i][k] (by simp)
      have e47 : M47 = 140737488355328 := rfl
      rw [e47] at t1
      have v2 := wr64 (m - c[i][k].value.size) (by omega)
      have hd2 := slotWt_drop hlk
      have hew : c[i][k].wt = 1 + c[i][k].value.size + N.wt.go c[i][k].rest := rfl
      obtain ⟨r, hr⟩ : ∃ r, lessB (m - c[i][k].value.size) (1 + N.wt.go c[i][k].rest) = r := ⟨_, rfl⟩
      have hf := f36x Gl c[i][k].rest (m - c[i][k].value.size) t2 (by omega) (by omega)
      rw [hr] at hf
      unfold lessB at hr
      refine hC.vc [] 60 ?_
      simp [hlt, hlk, hpm, Ent.pv_eq, v2]
      refine hC.call [] hf (by simp) ?_
      have hwk := wr64 ((k : Int) + 1) (by omega)
      refine hC.vc [] 60 ?_
      simp
      refine go_to [] (ih2 ⟨(k + 1, r), by dsimp only; omega, ?_⟩ (by simp; omega)) (by simp [hwk])
      dsimp only
      split at hr <;> omega
    · have hE2 : m - compWt (c.drop (i + 1)) = 1500 - compWt c ∨ (m ≤ 0 ∧ 1500 - (compWt c : Int) < 1) := by
        rcases hE with hE | hE
        · by_cases hlk : k < c[i].length
          · right; constructor <;> omega
          · left
            rw [List.drop_eq_nil_of_le (by omega)] at hE
            simp only [List.map_nil, List.sum_nil] at hE
            omega
        · exact .inr hE
      refine hC.vc [] 60 ?_
      by_cases hlk : k < c[i].length
      · have hq : ¬ 0 < m := fun h => hgo2 ⟨hlk, h⟩
        simp [hlt, hlk, hq]
        exact go_to [] (ih ⟨(i + 1, m), by dsimp only; omega, hc1, by dsimp only; omega, hE2⟩ (by simp; omega)) (by simp [hwi])
      · simp [hlt, hlk]
        exact go_to [] (ih ⟨(i + 1, m), by dsimp only; omega, hc1, by dsimp only; omega, hE2⟩ (by simp; omega)) (by simp [hwi])
  · have hfin : decide (compWt c < 1500) = decide (0 < l) := by
      have : compWt c < 1500 ↔ 0 < l := by
        by_cases hlt : i < c.length
        · constructor <;> intro h <;> omega
        · rw [List.drop_eq_nil_of_le (by omega)] at hD
          simp only [compWt, List.map_nil, List.sum_nil] at hD
          constructor <;> intro h <;> simp only [compWt] at * <;> omega
      exact decide_eq_decide.2 this
    rw [hfin] at hC
    refine hC.vc [] 60 ?_
    by_cases hlt : i < c.length
    · have hq : ¬ 0 < l := fun h => hgo ⟨hlt, h⟩
      simp [hlt, hq]
    · simp [hlt]
end Go.Proofs.D
