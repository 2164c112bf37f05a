/-
  COMPLEMENTS: how one is written.
-/
import Derived.Test.YtdlnenkemolnlaaGreatDoorK10
import Derived.Test.YtdlnenkemolnlaaGreatDoorK12
import Derived.Test.YtdlnenkemolnlaaGreatDoorD32
import Derived.SizedLaws
set_option linter.unusedVariables false
set_option linter.unusedSimpArgs false
namespace Go.Proofs.D
open Go Go.Abs Go.RowKit
attribute [local simp] VC VCS stepVS stepTopS firstId memN bigB unmark markT mkOff calmP keepT boundB stepV stepTop stepReg stepOp stMove stPick stBin stUn stConv stBox stAlloc stLoad stStore stFieldAddr stField stExtract stNilCheck stMakeFunc stIndexAddr stIndex stLen
  stBuild placesOf fillA stBuildSlice sliceCells repL chunks allPV toPV drawOk drawOk.go mayMakeO mayMake1 disjoint pairOk Oper.apart Oper.looksAt Op.operands Call.operands Region.binds stAppend appBase appTail unName stSlice bndA
  LS.ev LS.get LS.blk LS.put LS.app LS.upd lkS lkH setS setH Nm.eqb guardOf nexts okPair dstOk AV.cellsOf takeAt putAt lkT sliceE fieldT intK isStrT isBoolT abin newOk LS.freshB LS.freshB.go LS.freshB.goH notIn AV.ments AV.ments.mentsL Blk.ments makes upsMents LS.start startL exitTo T T3 outs callSideO callSideD upsR backO freshAll argB onlyIO List.map List.append List.nil_append List.cons_append Nat.blt
  conv convS convH srcs srcOf blkOk leA leA.leL Go.Abs.leB leP laid laidM isArg subH retP resAV resL res1 AV.frz AV.frz.frzL evL AV.ren AV.ren.renL Blk.ren renBs blksOf allSome nodupB onlyArgs blksMents callUps keyed inName inName.go backName callSide
theorem entw_len (e : Ent) : 1 + e.w.length ≤ 6 * e.wt := by
  unfold Ent.w Ent.wt
  have h1 := quote_len e.value.data.toList
  rw [bsz] at h1
  have h2 := go_len4 e.rest
  split
  · split <;> simp <;> omega
  · simp; omega
theorem line_len (l : List Ent) : (lineB l).length ≤ 6 * slotWt l := by
  have h := sepBy_len 32 (l.map Ent.w)
  have h2 : ((l.map Ent.w).map fun x => 1 + x.length).sum ≤ 6 * (l.map Ent.wt).sum := by
    induction l with
    | nil => simp
    | cons e l ih =>
      have := entw_len e
      have ih := ih (sepBy_len 32 (l.map Ent.w))
      simp only [List.map_cons, List.sum_cons]
      omega
  simp only [lineB, List.length_append, List.length_cons, List.length_nil, slotWt]
  omega
theorem comp_len : ∀ c : Cm, (compB c).length ≤ 6 * compWt c
  | [] => by simp [compB]
  | l :: c => by
    have h1 := line_len l
    have h2 := comp_len c
    simp only [compB, compWt, List.map_cons, List.sum_cons, List.length_append] at h2 ⊢
    omega
theorem compB_append : ∀ a b : Cm, compB (a ++ b) = compB a ++ compB b
  | [], b => rfl
  | l :: a, b => by simp only [List.cons_append, compB, compB_append a b, List.append_assoc]
theorem compB_take {c : Cm} {i : Nat} (h : i < c.length) : compB (c.take (i + 1)) = compB (c.take i) ++ lineB c[i] := by
  rw [List.take_add_one, List.getElem?_eq_getElem h, compB_append]
  simp [compB]
theorem compWt_append (a b : Cm) : compWt (a ++ b) = compWt a + compWt b := by
  simp [compWt]
theorem slot_mem {c : Cm} {l : List Ent} (h : l ∈ c) : slotWt l ≤ compWt c := by
  obtain ⟨a, b, rfl⟩ := List.append_of_mem h
  rw [compWt_append]
  simp only [compWt, List.map_cons, List.sum_cons]
  omega
theorem ent_mem {l : List Ent} {e : Ent} (h : e ∈ l) : e.wt + 1 ≤ slotWt l := by
  obtain ⟨a, b, rfl⟩ := List.append_of_mem h
  simp only [slotWt, List.map_append, List.map_cons, List.sum_append, List.sum_cons]
  omega
theorem comp_lens (c : Cm) : c.length ≤ compWt c := by
  induction c with
  | nil => simp
  | cons l c ih => simp only [compWt, List.map_cons, List.sum_cons, List.length_cons, slotWt] at ih ⊢; omega
theorem slot_lens (l : List Ent) : l.length ≤ slotWt l := by
  have : l.length ≤ (l.map Ent.wt).sum := by
    induction l with
    | nil => simp
    | cons e l ih => simp only [List.map_cons, List.sum_cons, List.length_cons, Ent.wt] at ih ⊢; omega
  unfold slotWt
  omega
def printC (c : Cm) : ByteArray := if okC c = true then bs (compB c) else ⟨#[]⟩
def printE (c : Cm) : Int := if okC c = true then 0 else 2
/-- A builder that is used, or not yet. -/
def adOf (r : Nm) : Bool → AV
  | false => nilPtr
  | true => .ptr r 0
theorem adOf_or (b : Bool) : adOf (.arg 0) b = nilPtr ∨ adOf (.arg 0) b = ptr0 := by cases b <;> simp [adOf]
set_option maxRecDepth 20000 in
set_option maxHeartbeats 4000000 in
theorem f23 (c : Cm) (hw : compWt c ≤ 90000) : Fun Tryz.prog tabs 9 [.pv (comp c)] [] (.tup [vS (printC c), vI (printE c)]) [] := by
  have hcl := comp_lens c
  refine fun_of (T := T3) (n := 42) (rs := [.tmp 2, .tmp 3]) Tryz.func9 (by kernel_rfl) rfl rfl rfl tok3 mixed (by simp) fun C hC => ?_
  refine hC.vc [] 60 ?_
  simp
  refine go_loop (ι := {x : Nat × Bool // x.1 ≤ c.length ∧ okC c = okC (c.drop x.1) ∧ ∀ l ∈ c.take x.1, ∀ e ∈ l, Ent.ok e = true}) (fun x => ⟨[(4, .ptr (.loc 4) 0), (12, .pv (comp c)), (13, vI c.length), (14, vI x.1.1)], [(.loc 4, some (bldB (adOf (.loc 4) x.1.2) (.own (.can 0)))), (.can 0, some (bytesB (compB (c.take x.1.1))))]⟩)
    (fun x => c.length - x.1.1) ⟨(0, false), by simp⟩ [(.can 0, .nil)] (by simp [compB, adOf]) fun x ih => ?_
  obtain ⟨⟨i, ad⟩, hi, hn, hok⟩ := x
  simp only at hi hn hok ih
  refine hC.vc [] 60 ?_
  rcases Bool.eq_false_or_eq_true ad with hA | hA
  all_goals
    by_cases hlt : i < c.length
    · have hw1 := wr64 ((i : Int) + 1) (by omega)
      have hsm := slot_mem (c := c) (l := c[i]) (by simp)
      have hsl := slot_lens c[i]
      simp [hlt, hA, adOf]
      refine go_loop (ι := {k : Nat // k ≤ c[i].length ∧ c[i].all Ent.ok = (c[i].drop k).all Ent.ok ∧ ∀ e ∈ c[i].take k, Ent.ok e = true}) (fun x => ⟨[(4, .ptr (.loc 4) 0), (12, .pv (comp c)), (13, vI c.length), (14, vI i), (18, .pv (slot c[i])), (19, vI c[i].length), (20, vI x.1), (7, .own (.can 1))],
          [(.loc 4, some (bldB (adOf (.loc 4) ad) (.own (.can 0)))), (.can 0, some (bytesB (compB (c.take i)))), (.can 1, some (.row 9 1 ((c[i].map fun e => [PV.val (.string e.txt)]).take x.1)))]⟩)
        (fun x => c[i].length - x.1) ⟨0, by simp⟩ [(.can 1, .nil)] (by simp [hA, adOf]) fun x ih2 => ?_
      obtain ⟨k, hk, hn2, hok2⟩ := x
      simp only at hk hn2 hok2 ih2
      refine hC.vc [] 60 ?_
      by_cases hlk : k < c[i].length
      · have hw2 := wr64 ((k : Int) + 1) (by omega)
        have hem := ent_mem (l := c[i]) (e := c[i][k]) (by simp)
        rw [List.drop_eq_getElem_cons hlk, List.all_cons] at hn2
        simp [hlk, hA, adOf, Ent.pv_eq]
        refine hC.call [] (f37 c[i][k] (by omega)) (by simp [Ent.av, Ent.cells]) ?_
        cases hek : c[i][k].ok with
        | false =>
          rw [hek, Bool.false_and] at hn2
          have : okC c = false := by
            rw [hn, List.drop_eq_getElem_cons hlt]
            simp only [okC, List.all_cons, hn2, Bool.false_and]
          refine hC.vc [] 60 ?_
          simp [printC, printE, this]
        | true =>
          rw [hek, Bool.true_and] at hn2
          have htk : (c[i].map fun e => [PV.val (.string e.txt)]).take (k + 1) = (c[i].map fun e => [PV.val (.string e.txt)]).take k ++ [[.val (.string c[i][k].txt)]] := by
            rw [List.take_add_one, List.getElem?_map, List.getElem?_eq_getElem hlk]; rfl
          refine hC.vc [] 60 ?_
          simp [hA, adOf]
          refine ⟨by omega, ?_⟩
          exact go_to [(.can 1, .nm (.loc 34))] (ih2 ⟨k + 1, hlk, hn2, fun e he => by
            rw [List.take_add_one, List.getElem?_eq_getElem hlk] at he
            rcases List.mem_append.1 he with h | h
            · exact hok2 e h
            · simp at h; rw [h]; exact hek⟩ (by simp; omega)) (by simp [hw2, htk, hA, adOf])
      · have htk : c[i].take k = c[i] := List.take_of_length_le (by omega)
        rw [htk] at hok2
        have hall : c[i].all Ent.ok = true := List.all_eq_true.2 hok2
        have hmap : (c[i].map fun e => [PV.val (.string e.txt)]).take k = (c[i].map fun e => bs e.w).map fun s => [PV.val (.string s)] := by
          rw [List.take_of_length_le (by simp; omega), List.map_map]
          exact List.map_congr_left fun e he => by simp [txt_ok (hok2 e he)]
        rw [hmap]
        have hj := joinB_bs (c[i].map fun e => bs e.w) 32
        have hj2 : ((c[i].map fun e => bs e.w).map (·.data.toList)) = c[i].map Ent.w := by rw [List.map_map]; exact List.map_congr_left fun p _ => bs_list _
        rw [hj2] at hj
        have hll := line_len c[i]
        have hlen : (sepBy 32 (c[i].map Ent.w)).length + 1 = (lineB c[i]).length := by simp [lineB]
        have hcw := comp_len (c.take i)
        have hcw2 : compWt (c.take i) + slotWt c[i] ≤ compWt c := by
          have h1 := compWt_append (c.take (i + 1)) (c.drop (i + 1))
          rw [List.take_append_drop, List.take_add_one, List.getElem?_eq_getElem hlt, compWt_append] at h1
          simp only [Option.toList_some] at h1
          have : compWt [c[i]] = slotWt c[i] := by simp [compWt]
          omega
        simp [hlk, hA, adOf]
        refine hC.call [.can 1] (fun_ownRow (a := []) (b := [vS ⟨#[32]⟩]) (e := 9) (by simp [AV.ments]) rfl (f39 tabs (c[i].map fun e => bs e.w) ⟨#[32]⟩ (by simp; omega) (by rw [hj, bs_size]; omega))) (by simp [hA, adOf]) ?_
        rw [hj]
        have hfin : bs (sepBy 32 (c[i].map Ent.w)) ++ ⟨#[10]⟩ = bs (lineB c[i]) := bsExt (by simp [lineB, bs, ByteArray.data_append])
        have g0 : (⟨#[10]⟩ : ByteArray).size = 1 := rfl
        refine hC.vc [] 2 ?_
        simp [hA, adOf, bs_size, g0, hfin]
        refine ⟨by omega, ?_⟩
        refine hC.callO [.loc 4, .can 0] [.can 2] (f38 tabs (adOf (.arg 0) ad) (compB (c.take i)) (bs (lineB c[i])) (adOf_or ad) (by rw [bs_size]; omega)) (by simp [hA, adOf]) ?_
        rw [bs_list, ← compB_take hlt]
        refine hC.vc [] 60 ?_
        simp
        exact go_to [(.can 0, .nm (.can 2))] (ih ⟨(i + 1, true), hlt, by
          rw [hn, List.drop_eq_getElem_cons hlt]
          simp only [okC, List.all_cons, hall, Bool.true_and], fun l hl e he => by
          rw [List.take_add_one, List.getElem?_eq_getElem hlt] at hl
          rcases List.mem_append.1 hl with h | h
          · exact hok l h e he
          · simp at h; rw [h] at he; exact hok2 e he⟩ (by simp; omega)) (by simp [hw1, adOf])
    · have htk : c.take i = c := List.take_of_length_le (by omega)
      rw [List.drop_eq_nil_of_le (by omega)] at hn
      have hk : okC c = true := by rw [hn]; rfl
      have h1 : printC c = ⟨(compB c).toArray⟩ := by rw [printC, if_pos hk]; rfl
      have h2 : printE c = 0 := by rw [printE, if_pos hk]
      rw [h1, h2] at hC
      simp [hlt, hA, adOf]
      rw [htk]
      refine hC.call [.loc 4, .can 0] (f40 tabs (adOf (.arg 0) ad) (compB c) (adOf_or ad)) (by simp [hA, adOf]) ?_
      refine hC.vc [] 60 ?_
      simp
end Go.Proofs.D
/-
  THE LAW'S OWN FUNCTIONS: can a complement be gone through?
-/
set_option linter.unusedVariables false
set_option linter.unusedSimpArgs false
namespace Go.Proofs.D
open Go Go.Abs Go.RowKit
attribute [local simp] VC VCS stepVS stepTopS firstId memN bigB unmark markT mkOff calmP keepT boundB stepV stepTop stepReg stepOp stMove stPick stBin stUn stConv stBox stAlloc stLoad stStore stFieldAddr stField stExtract stNilCheck stMakeFunc stIndexAddr stIndex stLen
  stBuild placesOf fillA stBuildSlice sliceCells repL chunks allPV toPV drawOk drawOk.go mayMakeO mayMake1 disjoint pairOk Oper.apart Oper.looksAt Op.operands Call.operands Region.binds stAppend appBase appTail unName stSlice bndA
  LS.ev LS.get LS.blk LS.put LS.app LS.upd lkS lkH setS setH Nm.eqb guardOf nexts okPair dstOk AV.cellsOf takeAt putAt lkT sliceE fieldT intK isStrT isBoolT abin newOk LS.freshB LS.freshB.go LS.freshB.goH notIn AV.ments AV.ments.mentsL Blk.ments makes upsMents LS.start startL exitTo T T3 outs callSideO callSideD upsR backO freshAll argB onlyIO List.map List.append List.nil_append List.cons_append Nat.blt
  conv convS convH srcs srcOf blkOk leA leA.leL Go.Abs.leB leP laid laidM isArg subH retP resAV resL res1 AV.frz AV.frz.frzL evL AV.ren AV.ren.renL Blk.ren renBs blksOf allSome nodupB onlyArgs blksMents callUps keyed inName inName.go backName callSide
theorem slotWt_drop {l : List Ent} {i : Nat} (h : i < l.length) : ((l.drop i).map Ent.wt).sum = l[i].wt + ((l.drop (i + 1)).map Ent.wt).sum := by
  rw [List.drop_eq_getElem_cons h]; simp
theorem compWt_drop {c : Cm} {i : Nat} (h : i < c.length) : compWt (c.drop i) = slotWt c[i] + compWt (c.drop (i + 1)) := by
  rw [List.drop_eq_getElem_cons h]; simp [compWt]
theorem f36x (Gl : Granted) (l : List N) (left : Int) (hs : ∀ x ∈ l, x.small) (h1 : -1000000000000000 ≤ left) (h2 : left ≤ 1000000) : Fun Tryz.prog Gl 33 [.agg [vS ⟨#[]⟩, vS ⟨#[]⟩, .pv (.nilS 1), .pv (.nilS 2), .pv (nodes l)], vI left] [] (vI (lessB left (1 + N.wt.go l))) [] := by
  have h := f36 Gl (.mk ⟨#[]⟩ ⟨#[]⟩ [] [] l) left ((N.small_eq _).2 ⟨Nat.zero_le _, Nat.zero_le _, by simp [N.marks], by simp [N.attrs], hs⟩) h1 h2
  have hw : (N.mk ⟨#[]⟩ ⟨#[]⟩ [] [] l).wt = 1 + N.wt.go l := by
    rw [N.wt_eq]
    simp only [N.kind, N.text, N.marks, N.attrs, N.kids, names1, attrs1, List.map_nil, List.sum_nil]
    have h0 : (⟨#[]⟩ : ByteArray).size = 0 := rfl
    omega
  rw [hw] at h
  exact fun_nils h
def Ent.small (e : Ent) : Prop := e.value.size ≤ M47 ∧ ∀ x ∈ e.rest, x.small
set_option maxRecDepth 20000 in
set_option maxHeartbeats 2000000 in
theorem f22 (Gl : Granted) (c : Cm) (hs : ∀ l ∈ c, ∀ e ∈ l, Ent.small e) : Fun Tryz.prog Gl 8 [.pv (comp c)] [] (vB (decide (compWt c < 1500))) [] := by
  refine fun_of (T := T3) (n := 54) (rs := [.tmp 2]) Tryz.func8 (by kernel_rfl) rfl rfl rfl tok3 mixed (by simp) fun C hC => ?_
  refine hC.vc [] 60 ?_
  simp
  refine go_len 0 1 (c.map fun l => [slot l]) (by simp) fun hcl => ?_
  rw [List.length_map] at hcl
  refine go_loop (ι := {x : Nat × Int // x.1 ≤ c.length ∧ -1000000000000000 ≤ x.2 ∧ x.2 ≤ 1500 ∧ (x.2 - compWt (c.drop x.1) = 1500 - compWt c ∨ (x.2 ≤ 0 ∧ 1500 - (compWt c : Int) < 1))}) (fun x => ⟨[(0, .pv (comp c)), (3, vI x.1.2), (4, vI x.1.1)], []⟩)
    (fun x => c.length - x.1.1) ⟨(0, 1500), by simp⟩ [] (by simp) fun x ih => ?_
  obtain ⟨⟨i, l⟩, hi, hb1, hb2, hD⟩ := x
  simp only at hi hb1 hb2 hD ih
  by_cases hgo : i < c.length ∧ 0 < l
  · obtain ⟨hlt, hp⟩ := hgo
    have hwi := wr64 ((i : Int) + 1) (by omega)
    have v1 := wr64 (l - 1) (by omega)
    have hd := compWt_drop hlt
    refine hC.vc [] 60 ?_
    simp [hlt, hp, v1]
    refine go_loop (ι := {x : Nat × Int // x.1 ≤ c[i].length ∧ -1000000000000000 ≤ x.2 ∧ x.1 + x.2 ≤ 1500 ∧ (x.2 - ((c[i].drop x.1).map Ent.wt).sum - compWt (c.drop (i + 1)) = 1500 - compWt c ∨ (x.2 ≤ 0 ∧ 1500 - (compWt c : Int) < 1))}) (fun x => ⟨[(0, .pv (comp c)), (3, vI x.1.2), (4, vI i), (5, vI x.1.1)], []⟩)
      (fun x => c[i].length - x.1.1) ⟨(0, l - 1), by
        simp only [List.drop_zero, Nat.zero_le, true_and]
        unfold slotWt at hd
        omega⟩ [] (by simp) fun x ih2 => ?_
    obtain ⟨⟨k, m⟩, hk, hc1, hc2, hE⟩ := x
    simp only at hk hc1 hc2 hE ih2
    by_cases hgo2 : k < c[i].length ∧ 0 < m
    · obtain ⟨hlk, hpm⟩ := hgo2
      obtain ⟨t1, t2⟩ := hs c[i] (by simp) c[i][k] (by simp)
      have e47 : M47 = 140737488355328 := rfl
      rw [e47] at t1
      have v2 := wr64 (m - c[i][k].value.size) (by omega)
      have hd2 := slotWt_drop hlk
      have hew : c[i][k].wt = 1 + c[i][k].value.size + N.wt.go c[i][k].rest := rfl
      obtain ⟨r, hr⟩ : ∃ r, lessB (m - c[i][k].value.size) (1 + N.wt.go c[i][k].rest) = r := ⟨_, rfl⟩
      have hf := f36x Gl c[i][k].rest (m - c[i][k].value.size) t2 (by omega) (by omega)
      rw [hr] at hf
      unfold lessB at hr
      refine hC.vc [] 60 ?_
      simp [hlt, hlk, hpm, Ent.pv_eq, v2]
      refine hC.call [] hf (by simp) ?_
      have hwk := wr64 ((k : Int) + 1) (by omega)
      refine hC.vc [] 60 ?_
      simp
      refine go_to [] (ih2 ⟨(k + 1, r), by dsimp only; omega, ?_⟩ (by simp; omega)) (by simp [hwk])
      dsimp only
      split at hr <;> omega
    · have hE2 : m - compWt (c.drop (i + 1)) = 1500 - compWt c ∨ (m ≤ 0 ∧ 1500 - (compWt c : Int) < 1) := by
        rcases hE with hE | hE
        · by_cases hlk : k < c[i].length
          · right; constructor <;> omega
          · left
            rw [List.drop_eq_nil_of_le (by omega)] at hE
            simp only [List.map_nil, List.sum_nil] at hE
            omega
        · exact .inr hE
      refine hC.vc [] 60 ?_
      by_cases hlk : k < c[i].length
      · have hq : ¬ 0 < m := fun h => hgo2 ⟨hlk, h⟩
        simp [hlt, hlk, hq]
        exact go_to [] (ih ⟨(i + 1, m), by dsimp only; omega, hc1, by dsimp only; omega, hE2⟩ (by simp; omega)) (by simp [hwi])
      · simp [hlt, hlk]
        exact go_to [] (ih ⟨(i + 1, m), by dsimp only; omega, hc1, by dsimp only; omega, hE2⟩ (by simp; omega)) (by simp [hwi])
  · have hfin : decide (compWt c < 1500) = decide (0 < l) := by
      have : compWt c < 1500 ↔ 0 < l := by
        by_cases hlt : i < c.length
        · constructor <;> intro h <;> omega
        · rw [List.drop_eq_nil_of_le (by omega)] at hD
          simp only [compWt, List.map_nil, List.sum_nil] at hD
          constructor <;> intro h <;> simp only [compWt] at * <;> omega
      exact decide_eq_decide.2 this
    rw [hfin] at hC
    refine hC.vc [] 60 ?_
    by_cases hlt : i < c.length
    · have hq : ¬ 0 < l := fun h => hgo ⟨hlt, h⟩
      simp [hlt, hq]
    · simp [hlt]
end Go.Proofs.D
/-
  THE ARGUMENTS, as the row reads them: nodes, complements.
-/
set_option linter.unusedVariables false
set_option linter.unusedSimpArgs false
namespace Go.Proofs.D
open Go Go.Abs Go.RowKit Go.ChangeShapes Go.WideShapes
section
variable {H : Type} {enc : TypeId × Value → H} {W : World}
/-- Nothing in it weighs more than the form reaches. -/
def Fits (t : TypeId) (d : DataW H) : Prop := ∀ k ∈ d.weights Tryz.prog t, k ≤ reachBytes
theorem weights_mem_all {e : TypeId} : ∀ {ds : List (DataW H)} {d : DataW H}, d ∈ ds → ∀ k ∈ d.weights Tryz.prog e, k ∈ DataW.weightsAll Tryz.prog e ds
  | x :: ds, d, hd, k, hk => by
    simp only [DataW.weightsAll, List.mem_append]
    rcases List.mem_cons.1 hd with rfl | hd
    · exact .inl hk
    · exact .inr (weights_mem_all hd k hk)
theorem fits_slice {t e : TypeId} (ht : Tryz.prog.underlying t = some (.slice e)) {es sp : List (DataW H)} (h : Fits t (.slice es sp)) : ∀ d ∈ es, Fits e d := fun d hd k hk => by
  refine h k ?_
  simp only [DataW.weights, ht, List.mem_cons, List.mem_append]
  exact .inr (.inl (weights_mem_all hd k hk))
theorem fits_struct {t : TypeId} {fs : Array Field} (ht : Tryz.prog.underlying t = some (.struct fs)) {ps : List (DataW H)} (h : Fits t (.agg ps)) {j : Nat} {f : Field} {d : DataW H} (hf : fs[j]? = some f) (hd : ps[j]? = some d) : Fits f.type d := fun k hk => by
  refine h k ?_
  simp only [DataW.weights, ht]
  exact DataW.weights_mem_each (j := j) (by simp [hf]) hd k hk
theorem str_fits {n : Nat} {cs : List Value} {x : DataW H × List MemPlace} (h : DataW.trod enc Tryz.prog W 0 (fun _ => true) true n 9 cs = some x) (hf : Fits 9 x.1) : ∃ s : ByteArray, cs = [.string s] ∧ s.size ≤ M47 := by
  obtain ⟨s, h1, rfl, h2⟩ := DataW.trod_string Tryz.underlying9 h
  refine ⟨s, h1, ?_⟩
  have := hf s.data.toList.length (by simp [DataW.weights])
  have h3 := reachBytes_lt
  rw [bsz] at this
  have e47 : M47 = 140737488355328 := rfl
  omega
theorem cells116 : Tryz.prog.cellsOf 136 = 2 := by kernel_rfl
theorem cells79 : Tryz.prog.cellsOf 87 = 5 := by kernel_rfl
theorem cells70 : Tryz.prog.cellsOf 78 = 3 := by kernel_rfl
theorem cells72 : Tryz.prog.cellsOf 80 = 1 := by kernel_rfl
theorem cells42 : Tryz.prog.cellsOf 40 = 1 := by kernel_rfl
theorem cells77 : Tryz.prog.cellsOf 85 = 1 := by kernel_rfl
theorem cells68 : Tryz.prog.cellsOf 76 = 1 := by kernel_rfl
theorem cells4 : Tryz.prog.cellsOf 4 = 1 := by kernel_rfl
theorem again4 (n : Nat) : Again H enc Tryz.prog n 4 := again_bool Tryz.underlying4 n
theorem again116 (n : Nat) : Again H enc Tryz.prog n 136 := again_struct Tryz.underlying136 n fun m hm i f hf => by
  match i, hf with
  | 0, hf => simp at hf; subst hf; exact again9 m
  | 1, hf => simp at hf; subst hf; exact again9 m
  | i + 2, hf => simp at hf
theorem again77 (n : Nat) : Again H enc Tryz.prog n 85 := again_slice Tryz.underlying85 (by rw [cells116]; decide) n fun m _ => again116 m
theorem again79 (n : Nat) : Again H enc Tryz.prog n 87 := by
  induction n using Nat.strongRecOn with
  | _ n ih =>
    refine again_struct Tryz.underlying87 n fun m hm i f hf => ?_
    match i, hf with
    | 0, hf => simp at hf; subst hf; exact again9 m
    | 1, hf => simp at hf; subst hf; exact again9 m
    | 2, hf => simp at hf; subst hf; exact again42 m
    | 3, hf => simp at hf; subst hf; exact again77 m
    | 4, hf => simp at hf; subst hf; exact again_slice Tryz.underlying76 (by rw [cells79]; decide) m fun k hk => ih k (by omega)
    | i + 5, hf => simp at hf
theorem again68 (n : Nat) : Again H enc Tryz.prog n 76 := again_slice Tryz.underlying76 (by rw [cells79]; decide) n fun m _ => again79 m
theorem again70 (n : Nat) : Again H enc Tryz.prog n 78 := again_struct Tryz.underlying78 n fun m hm i f hf => by
  match i, hf with
  | 0, hf => simp at hf; subst hf; exact again4 m
  | 1, hf => simp at hf; subst hf; exact again9 m
  | 2, hf => simp at hf; subst hf; exact again68 m
  | i + 3, hf => simp at hf
theorem again72 (n : Nat) : Again H enc Tryz.prog n 80 := again_slice Tryz.underlying80 (by rw [cells70]; decide) n fun m _ => again70 m
theorem again47 (n : Nat) : Again H enc Tryz.prog n 23 := again_slice Tryz.underlying23 (by rw [cells72]; decide) n fun m _ => again72 m
instance : Inhabited N := ⟨.mk ⟨#[]⟩ ⟨#[]⟩ [] [] []⟩
instance : Inhabited Ent := ⟨⟨false, ⟨#[]⟩, []⟩⟩
theorem hoe_of {t e : TypeId} (ht : Tryz.prog.underlying t = some (.slice e)) {x : DataW H × List MemPlace} (hf : Fits t x.1) : ∀ es sp, x.1 = .slice es sp → ∀ d ∈ es, Fits e d := fun es sp hx d hd => fits_slice ht (hx ▸ hf) d hd
theorem reads42 (n : Nat) (cs : List Value) (x : DataW H × List MemPlace) (h : DataW.trod enc Tryz.prog W 0 (fun _ => true) true n 40 cs = some x) (hf : Fits 40 x.1) : ∃ (l : List ByteArray) (v : Value), cs = [v] ∧ (∀ s ∈ l, s.size ≤ M47) ∧ RepP W (allOf W) (strs l) v := by
  obtain ⟨l, v, h1, h2, h3, _⟩ := reads_sliceG (e := 9) (sz := 1) Tryz.underlying40 cells9 (by decide) (fun s : ByteArray => [.val (.string s)]) (fun s => s.size ≤ M47) (Fits 9) n (fun m _ cs x hx hfx => by
    obtain ⟨s, rfl, hs⟩ := str_fits hx hfx
    refine ⟨s, hs, rfl, fun j c v h3 h4 => ?_⟩
    match j, h3, h4 with
    | 0, h3, h4 => simp at h3 h4; subst h3 h4; exact .val _ rfl) cs x h (hoe_of Tryz.underlying40 hf)
  exact ⟨l, v, h1, h2, h3⟩
/-- The parts of a struct, each read. -/
theorem parts_of {t : TypeId} {fs : Array Field} (ht : Tryz.prog.underlying t = some (.struct fs)) {n : Nat} {cs : List Value} {x : DataW H × List MemPlace} (h : DataW.trod enc Tryz.prog W 0 (fun _ => true) true n t cs = some x) (hf : Fits t x.1) :
    cs.length = Tryz.prog.cellsOf t ∧ ∃ m, n = m + 1 ∧ ∀ (i : Nat) (f : Field), fs[i]? = some f → ∃ y, DataW.trod enc Tryz.prog W 0 (fun _ => true) true m f.type ((cs.drop f.offset).take (Tryz.prog.cellsOf f.type)) = some y ∧ Fits f.type y.1 := by
  obtain ⟨xs, m, rfl, rfl, hl, hx, hi⟩ := DataW.trod_struct ht h
  refine ⟨hl, m, rfl, fun i f hif => ?_⟩
  have hlt : i < xs.length := by rw [hx]; exact (Array.getElem?_eq_some_iff.1 hif).1
  have h1 := hi i f hif
  rw [List.getElem?_eq_getElem hlt] at h1
  exact ⟨xs[i], h1, fits_struct ht hf hif (by simp [hlt])⟩
set_option maxRecDepth 20000 in
theorem reads77 (n : Nat) (cs : List Value) (x : DataW H × List MemPlace) (h : DataW.trod enc Tryz.prog W 0 (fun _ => true) true n 85 cs = some x) (hf : Fits 85 x.1) : ∃ (l : List (ByteArray × ByteArray)) (v : Value), cs = [v] ∧ (∀ p ∈ l, p.1.size ≤ M47 ∧ p.2.size ≤ M47) ∧ RepP W (allOf W) (pairs l) v := by
  obtain ⟨l, v, h1, h2, h3, _⟩ := reads_sliceG (e := 136) (sz := 2) Tryz.underlying85 cells116 (by decide) (fun p : ByteArray × ByteArray => [.val (.string p.1), .val (.string p.2)]) (fun p => p.1.size ≤ M47 ∧ p.2.size ≤ M47) (Fits 136) n (fun m _ cs x hx hfx => by
    obtain ⟨hl, k, _, hp⟩ := parts_of Tryz.underlying136 hx hfx
    rw [cells116] at hl
    match cs, hl with
    | [a, b], _ =>
      obtain ⟨y0, g0, f0⟩ := hp 0 _ rfl
      obtain ⟨y1, g1, f1⟩ := hp 1 _ rfl
      replace g0 : DataW.trod enc Tryz.prog W 0 (fun _ => true) true k 9 [a] = some y0 := by simpa [cells9] using g0
      replace g1 : DataW.trod enc Tryz.prog W 0 (fun _ => true) true k 9 [b] = some y1 := by simpa [cells9] using g1
      obtain ⟨s, hs, hs'⟩ := str_fits g0 f0
      obtain ⟨t, ht, ht'⟩ := str_fits g1 f1
      cases hs
      cases ht
      refine ⟨(s, t), ⟨hs', ht'⟩, rfl, fun j c v h3 h4 => ?_⟩
      match j, h3, h4 with
      | 0, h3, h4 => simp at h3 h4; subst h3 h4; exact .val _ rfl
      | 1, h3, h4 => simp at h3 h4; subst h3 h4; exact .val _ rfl) cs x h (hoe_of Tryz.underlying85 hf)
  exact ⟨l, v, h1, h2, h3⟩
theorem npv_len (e : N) : e.pv.length = 5 := by rw [N.pv_eq]; rfl
set_option maxRecDepth 20000 in
theorem reads79 (n : Nat) : ∀ (cs : List Value) (x : DataW H × List MemPlace), DataW.trod enc Tryz.prog W 0 (fun _ => true) true n 87 cs = some x → Fits 87 x.1 →
    ∃ e : N, e.small ∧ cs.length = 5 ∧ ∀ (j : Nat) (c : PV) (v : Value), e.pv[j]? = some c → cs[j]? = some v → RepP W (allOf W) c v := by
  induction n using Nat.strongRecOn with
  | _ n ih =>
    intro cs x h hf
    obtain ⟨hl, m, rfl, hp⟩ := parts_of Tryz.underlying87 h hf
    rw [cells79] at hl
    match cs, hl with
    | [a, b, c, d, e], _ =>
      obtain ⟨y0, g0, f0⟩ := hp 0 _ rfl
      obtain ⟨y1, g1, f1⟩ := hp 1 _ rfl
      obtain ⟨y2, g2, f2⟩ := hp 2 _ rfl
      obtain ⟨y3, g3, f3⟩ := hp 3 _ rfl
      obtain ⟨y4, g4, f4⟩ := hp 4 _ rfl
      replace g0 : DataW.trod enc Tryz.prog W 0 (fun _ => true) true m 9 [a] = some y0 := by simpa [cells9] using g0
      replace g1 : DataW.trod enc Tryz.prog W 0 (fun _ => true) true m 9 [b] = some y1 := by simpa [cells9] using g1
      replace g2 : DataW.trod enc Tryz.prog W 0 (fun _ => true) true m 40 [c] = some y2 := by simpa [cells42] using g2
      replace g3 : DataW.trod enc Tryz.prog W 0 (fun _ => true) true m 85 [d] = some y3 := by simpa [cells77] using g3
      replace g4 : DataW.trod enc Tryz.prog W 0 (fun _ => true) true m 76 [e] = some y4 := by simpa [cells68] using g4
      obtain ⟨s, q0, s0⟩ := str_fits g0 f0
      obtain ⟨t, q1, s1⟩ := str_fits g1 f1
      obtain ⟨mk, v2, q2, s2, r2⟩ := reads42 m _ _ g2 f2
      obtain ⟨at', v3, q3, s3, r3⟩ := reads77 m _ _ g3 f3
      obtain ⟨l, v4, q4, s4, r4, _⟩ := reads_sliceG (e := 87) (sz := 5) Tryz.underlying76 cells79 (by decide) N.pv N.small (Fits 87) m (fun k hk cs x hx hfx => by
        obtain ⟨e, a1, a2, a3⟩ := ih k (by omega) cs x hx hfx
        exact ⟨e, a1, npv_len e, a3⟩) _ _ g4 (hoe_of Tryz.underlying76 f4)
      cases q0
      cases q1
      cases q2
      cases q3
      cases q4
      refine ⟨.mk s t mk at' l, (N.small_eq _).2 ⟨s0, s1, s2, s3, s4⟩, rfl, fun j c v h3 h4 => ?_⟩
      rw [N.pv_eq] at h3
      match j, h3, h4 with
      | 0, h3, h4 => simp at h3 h4; subst h3 h4; exact .val _ rfl
      | 1, h3, h4 => simp at h3 h4; subst h3 h4; exact .val _ rfl
      | 2, h3, h4 => simp at h3 h4; subst h3 h4; exact r2
      | 3, h3, h4 => simp at h3 h4; subst h3 h4; exact r3
      | 4, h3, h4 => simp at h3 h4; subst h3 h4; exact r4
theorem reads68 (n : Nat) (cs : List Value) (x : DataW H × List MemPlace) (h : DataW.trod enc Tryz.prog W 0 (fun _ => true) true n 76 cs = some x) (hf : Fits 76 x.1) : ∃ (l : List N) (v : Value), cs = [v] ∧ (∀ y ∈ l, y.small) ∧ RepP W (allOf W) (nodes l) v := by
  obtain ⟨l, v, h1, h2, h3, _⟩ := reads_sliceG (e := 87) (sz := 5) Tryz.underlying76 cells79 (by decide) N.pv N.small (Fits 87) n (fun k hk cs x hx hfx => by
    obtain ⟨e, a1, a2, a3⟩ := reads79 k cs x hx hfx
    exact ⟨e, a1, npv_len e, a3⟩) _ _ h (hoe_of Tryz.underlying76 hf)
  exact ⟨l, v, h1, h2, h3⟩
set_option maxRecDepth 20000 in
theorem reads72 (n : Nat) (cs : List Value) (x : DataW H × List MemPlace) (h : DataW.trod enc Tryz.prog W 0 (fun _ => true) true n 80 cs = some x) (hf : Fits 80 x.1) : ∃ (l : List Ent) (v : Value), cs = [v] ∧ (∀ e ∈ l, Ent.small e) ∧ RepP W (allOf W) (slot l) v := by
  obtain ⟨l, v, h1, h2, h3, _⟩ := reads_sliceG (e := 78) (sz := 3) Tryz.underlying80 cells70 (by decide) Ent.pv Ent.small (Fits 78) n (fun m _ cs x hx hfx => by
    obtain ⟨hl, k, _, hp⟩ := parts_of Tryz.underlying78 hx hfx
    rw [cells70] at hl
    match cs, hl with
    | [a, b, c], _ =>
      obtain ⟨y0, g0, f0⟩ := hp 0 _ rfl
      obtain ⟨y1, g1, f1⟩ := hp 1 _ rfl
      obtain ⟨y2, g2, f2⟩ := hp 2 _ rfl
      replace g0 : DataW.trod enc Tryz.prog W 0 (fun _ => true) true k 4 [a] = some y0 := by simpa [cells4] using g0
      replace g1 : DataW.trod enc Tryz.prog W 0 (fun _ => true) true k 9 [b] = some y1 := by simpa [cells9] using g1
      replace g2 : DataW.trod enc Tryz.prog W 0 (fun _ => true) true k 76 [c] = some y2 := by simpa [cells68] using g2
      obtain ⟨b0, q0, _⟩ := DataW.trod_bool Tryz.underlying4 g0
      obtain ⟨s, q1, s1⟩ := str_fits g1 f1
      obtain ⟨l, v2, q2, s2, r2⟩ := reads68 k _ _ g2 f2
      cases q0
      cases q1
      cases q2
      refine ⟨⟨b0, s, l⟩, ⟨s1, s2⟩, rfl, fun j c v h3 h4 => ?_⟩
      match j, h3, h4 with
      | 0, h3, h4 => simp [Ent.pv] at h3 h4; subst h3 h4; exact .val _ rfl
      | 1, h3, h4 => simp [Ent.pv] at h3 h4; subst h3 h4; exact .val _ rfl
      | 2, h3, h4 => simp [Ent.pv] at h3 h4; subst h3 h4; exact r2) cs x h (hoe_of Tryz.underlying80 hf)
  exact ⟨l, v, h1, h2, h3⟩
theorem fits_of {ts : List TypeId} {ds : List (DataW H)} (h : (DataW.weightsEach Tryz.prog ts ds).all (· ≤ reachBytes) = true) {j : Nat} {t : TypeId} {d : DataW H} (ht : ts[j]? = some t) (hd : ds[j]? = some d) : Fits t d := fun k hk => by
  have := List.all_eq_true.1 h _ (DataW.weights_mem_each ht hd k hk)
  simpa using this
set_option maxRecDepth 20000 in
theorem arg47 {b0 : Nat} {v : Value} {d : DataW H} {p : List MemPlace} (hok : Value.okWide Tryz.prog W .any b0 23 v) (h : DataW.Trod enc Tryz.prog W 0 (fun _ => true) true 23 v d p) (hf : Fits 23 d) :
    ∃ c : Cm, Rep W (allOf W) noHd (.pv (comp c)) v ∧ ∀ l ∈ c, ∀ e ∈ l, Ent.small e := by
  obtain ⟨n, hn⟩ := h
  obtain ⟨c, u, h1, hg, h2, _⟩ := reads_sliceG (e := 80) (sz := 1) Tryz.underlying23 cells72 (by decide) (fun l : List Ent => [slot l]) (fun l => ∀ e ∈ l, Ent.small e) (Fits 80) n (fun m _ cs x hx hfx => by
    obtain ⟨l, v, rfl, hs, hr⟩ := reads72 m cs x hx hfx
    refine ⟨l, hs, rfl, fun j c v h3 h4 => ?_⟩
    match j, h3, h4 with
    | 0, h3, h4 => simp at h3 h4; subst h3 h4; exact hr) _ _ hn (hoe_of Tryz.underlying23 hf)
  have hv : v = u := by
    obtain ⟨A, k, c, rfl⟩ := okWide_slice Tryz.underlying23 hok
    simpa [Value.cells] using h1
  subst hv
  exact ⟨c, .pv _ _ h2, hg⟩
end
end Go.Proofs.D
