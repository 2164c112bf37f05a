/-
  COMPLEMENTS: how one is written.
-/
import Derived.Test.YtdlnenkemolnlaaGreatDoorK10
import Derived.Test.YtdlnenkemolnlaaGreatDoorK17
import Derived.Test.YtdlnenkemolnlaaGreatDoorQ4
import Derived.Test.YtdlnenkemolnlaaGreatDoorD32
import Derived.SizedLaws
set_option linter.unusedVariables false
set_option linter.unusedSimpArgs false
namespace Go.Proofs.D
open Go Go.Abs Go.RowKit
attribute [local simp] VC VCS stepVS stepTopS firstId memN bigB unmark markT mkOff calmP keepT boundB stepV stepTop stepReg stepOp stMove stPick stBin stUn stConv stBox stAlloc stLoad stStore stFieldAddr stField stExtract stNilCheck stMakeFunc stIndexAddr stIndex stLen
  stBuild placesOf fillA stBuildSlice sliceCells repL chunks allPV toPV drawOk drawOk.go mayMakeO mayMake1 disjoint pairOk Oper.apart Oper.looksAt Op.operands Call.operands Region.binds stAppend appBase appTail unName stSlice bndA
  LS.ev LS.get LS.blk LS.put LS.app LS.upd lkS lkH setS setH Nm.eqb guardOf nexts okPair dstOk AV.cellsOf takeAt putAt lkT sliceE fieldT intK isStrT isBoolT abin newOk LS.freshB LS.freshB.go LS.freshB.goH notIn AV.ments AV.ments.mentsL Blk.ments makes upsMents LS.start startL exitTo T T3 outs callSideO callSideD upsR backO freshAll argB onlyIO List.map List.append List.nil_append List.cons_append Nat.blt
  conv convS convH srcs srcOf blkOk leA leA.leL Go.Abs.leB leP laid laidM laidG isArg subH retP resAV resL res1 AV.frz AV.frz.frzL evL AV.ren AV.ren.renL Blk.ren renBs blksOf allSome nodupB onlyArgs blksMents callUps keyed inName inName.go backName callSide
theorem entw_len (e : Ent) : 1 + e.w.length ≤ 6 * e.wt := by
  unfold Ent.w Ent.wt
  have h1 := quote_len e.value.data.toList
  rw [bsz] at h1
  have h2 := go_len4 e.rest
  split
  · split <;> simp <;> omega
  · simp; omega
theorem line_len (l : List Ent) : (lineB l).length ≤ 6 * slotWt l := by
  have h := sepBy_len 32 (l.map Ent.w)
  have h2 : ((l.map Ent.w).map fun x => 1 + x.length).sum ≤ 6 * (l.map Ent.wt).sum := by
    induction l with
    | nil => simp
    | cons e l ih =>
      have := entw_len e
      have ih := ih (sepBy_len 32 (l.map Ent.w))
      simp only [List.map_cons, List.sum_cons]
      omega
  simp only [lineB, List.length_append, List.length_cons, List.length_nil, slotWt]
  omega
theorem comp_len : ∀ c : Cm, (compB c).length ≤ 6 * compWt c
  | [] => by simp [compB]
  | l :: c => by
    have h1 := line_len l
    have h2 := comp_len c
    simp only [compB, compWt, List.map_cons, List.sum_cons, List.length_append] at h2 ⊢
    omega
theorem compB_append : ∀ a b : Cm, compB (a ++ b) = compB a ++ compB b
  | [], b => rfl
  | l :: a, b => by simp only [List.cons_append, compB, compB_append a b, List.append_assoc]
theorem compB_take {c : Cm} {i : Nat} (h : i < c.length) : compB (c.take (i + 1)) = compB (c.take i) ++ lineB c[i] := by
  rw [List.take_add_one, List.getElem?_eq_getElem h, compB_append]
  simp [compB]
theorem compWt_append (a b : Cm) : compWt (a ++ b) = compWt a + compWt b := by
  simp [compWt]
theorem slot_mem {c : Cm} {l : List Ent} (h : l ∈ c) : slotWt l ≤ compWt c := by
  obtain ⟨a, b, rfl⟩ := List.append_of_mem h
  rw [compWt_append]
  simp only [compWt, List.map_cons, List.sum_cons]
  omega
theorem ent_mem {l : List Ent} {e : Ent} (h : e ∈ l) : e.wt + 1 ≤ slotWt l := by
  obtain ⟨a, b, rfl⟩ := List.append_of_mem h
  simp only [slotWt, List.map_append, List.map_cons, List.sum_append, List.sum_cons]
  omega
theorem comp_lens (c : Cm) : c.length ≤ compWt c := by
  induction c with
  | nil => simp
  | cons l c ih => simp only [compWt, List.map_cons, List.sum_cons, List.length_cons, slotWt] at ih ⊢; omega
theorem slot_lens (l : List Ent) : l.length ≤ slotWt l := by
  have : l.length ≤ (l.map Ent.wt).sum := by
    induction l with
    | nil => simp
    | cons e l ih => simp only [List.map_cons, List.sum_cons, List.length_cons, Ent.wt] at ih ⊢; omega
  unfold slotWt
  omega
def printC (c : Cm) : ByteArray := if okC c = true then bs (compB c) else ⟨#[]⟩
def printE (c : Cm) : Int := if okC c = true then 0 else 2
/-- A builder that is used, or not yet. -/
def adOf (r : Nm) : Bool → AV
  | false => nilPtr
  | true => .ptr r 0
theorem adOf_or (b : Bool) : adOf (.arg 0) b = nilPtr ∨ adOf (.arg 0) b = ptr0 := by cases b <;> simp [adOf]
set_option maxRecDepth 20000 in
set_option maxHeartbeats 4000000 in
theorem f23 (c : Cm) (hw : compWt c ≤ 90000) : Fun Tryz.prog tabs 9 [.pv (comp c)] [] (.tup [vS (printC c), vI (printE c)]) [] := by
  have hcl := comp_lens c
  refine fun_of (T := T3) (n := 42) (rs := [.tmp 2, .tmp 3]) Tryz.func9 (by kernel_rfl) rfl rfl rfl tok3 mixed (by simp) fun C hC => ?_
  refine hC.vc [] 60 ?_
  simp
  refine go_loop (ι := {x : Nat × Bool // x.1 ≤ c.length ∧ okC c = okC (c.drop x.1) ∧ ∀ l ∈ c.take x.1, ∀ e ∈ l, Ent.ok e = true}) (fun x => ⟨[(4, .ptr (.loc 4) 0), (12, .pv (comp c)), (13, vI c.length), (14, vI x.1.1)], [(.loc 4, some (bldB (adOf (.loc 4) x.1.2) (.own (.can 0)))), (.can 0, some (bytesB (compB (c.take x.1.1))))]⟩)
    (fun x => c.length - x.1.1) ⟨(0, false), by simp⟩ [(.can 0, .nil)] (by simp [compB, adOf]) fun x ih => ?_
  obtain ⟨⟨i, ad⟩, hi, hn, hok⟩ := x
  simp only at hi hn hok ih
  refine hC.vc [] 60 ?_
  rcases Bool.eq_false_or_eq_true ad with hA | hA
  all_goals
    by_cases hlt : i < c.length
    · have hw1 := wr64 ((i : Int) + 1) (by omega)
      have hsm := slot_mem (c := c) (l := c[i]) (by simp)
      have hsl := slot_lens c[i]
      simp [hlt, hA, adOf]
      refine go_loop (ι := {k : Nat // k ≤ c[i].length ∧ c[i].all Ent.ok = (c[i].drop k).all Ent.ok ∧ ∀ e ∈ c[i].take k, Ent.ok e = true}) (fun x => ⟨[(4, .ptr (.loc 4) 0), (12, .pv (comp c)), (13, vI c.length), (14, vI i), (18, .pv (slot c[i])), (19, vI c[i].length), (20, vI x.1), (7, .own (.can 1))],
          [(.loc 4, some (bldB (adOf (.loc 4) ad) (.own (.can 0)))), (.can 0, some (bytesB (compB (c.take i)))), (.can 1, some (.row 9 1 ((c[i].map fun e => [PV.val (.string e.txt)]).take x.1)))]⟩)
        (fun x => c[i].length - x.1) ⟨0, by simp⟩ [(.can 1, .nil)] (by simp [hA, adOf]) fun x ih2 => ?_
      obtain ⟨k, hk, hn2, hok2⟩ := x
      simp only at hk hn2 hok2 ih2
      refine hC.vc [] 60 ?_
      by_cases hlk : k < c[i].length
      · have hw2 := wr64 ((k : Int) + 1) (by omega)
        have hem := ent_mem (l := c[i]) (e := c[i][k]) (by simp)
        rw [List.drop_eq_getElem_cons hlk, List.all_cons] at hn2
        simp [hlk, hA, adOf, Ent.pv_eq]
        refine hC.call [] (f37 c[i][k] (by omega)) (by simp [Ent.av, Ent.cells]) ?_
        cases hek : c[i][k].ok with
        | false =>
          rw [hek, Bool.false_and] at hn2
          have : okC c = false := by
            rw [hn, List.drop_eq_getElem_cons hlt]
            simp only [okC, List.all_cons, hn2, Bool.false_and]
          refine hC.vc [] 60 ?_
          simp [printC, printE, this]
        | true =>
          rw [hek, Bool.true_and] at hn2
          have htk : (c[i].map fun e => [PV.val (.string e.txt)]).take (k + 1) = (c[i].map fun e => [PV.val (.string e.txt)]).take k ++ [[.val (.string c[i][k].txt)]] := by
            rw [List.take_add_one, List.getElem?_map, List.getElem?_eq_getElem hlk]; rfl
          refine hC.vc [] 60 ?_
          simp [hA, adOf]
          refine ⟨by omega, ?_⟩
          exact go_to [(.can 1, .nm (.loc 34))] (ih2 ⟨k + 1, hlk, hn2, fun e he => by
            rw [List.take_add_one, List.getElem?_eq_getElem hlk] at he
            rcases List.mem_append.1 he with h | h
            · exact hok2 e h
            · simp at h; rw [h]; exact hek⟩ (by simp; omega)) (by simp [hw2, htk, hA, adOf])
      · have htk : c[i].take k = c[i] := List.take_of_length_le (by omega)
        rw [htk] at hok2
        have hall : c[i].all Ent.ok = true := List.all_eq_true.2 hok2
        have hmap : (c[i].map fun e => [PV.val (.string e.txt)]).take k = (c[i].map fun e => bs e.w).map fun s => [PV.val (.string s)] := by
          rw [List.take_of_length_le (by simp; omega), List.map_map]
          exact List.map_congr_left fun e he => by simp [txt_ok (hok2 e he)]
        rw [hmap]
        have hj := joinB_bs (c[i].map fun e => bs e.w) 32
        have hj2 : ((c[i].map fun e => bs e.w).map (·.data.toList)) = c[i].map Ent.w := by rw [List.map_map]; exact List.map_congr_left fun p _ => bs_list _
        rw [hj2] at hj
        have hll := line_len c[i]
        have hlen : (sepBy 32 (c[i].map Ent.w)).length + 1 = (lineB c[i]).length := by simp [lineB]
        have hcw := comp_len (c.take i)
        have hcw2 : compWt (c.take i) + slotWt c[i] ≤ compWt c := by
          have h1 := compWt_append (c.take (i + 1)) (c.drop (i + 1))
          rw [List.take_append_drop, List.take_add_one, List.getElem?_eq_getElem hlt, compWt_append] at h1
          simp only [Option.toList_some] at h1
          have : compWt [c[i]] = slotWt c[i] := by simp [compWt]
          omega
        simp [hlk, hA, adOf]
        refine hC.call [.can 1] (fun_ownRow (a := []) (b := [vS ⟨#[32]⟩]) (e := 9) (by simp [AV.ments]) rfl (f39 tabs (c[i].map fun e => bs e.w) ⟨#[32]⟩ (by simp; omega) (by rw [hj, bs_size]; omega))) (by simp [hA, adOf]) ?_
        rw [hj]
        have hfin : bs (sepBy 32 (c[i].map Ent.w)) ++ ⟨#[10]⟩ = bs (lineB c[i]) := bsExt (by simp [lineB, bs, ByteArray.data_append])
        have g0 : (⟨#[10]⟩ : ByteArray).size = 1 := rfl
        refine hC.vc [] 2 ?_
        simp [hA, adOf, bs_size, g0, hfin]
        refine ⟨by omega, ?_⟩
        refine hC.callO [.loc 4, .can 0] [.can 2] (f38 tabs (adOf (.arg 0) ad) (compB (c.take i)) (bs (lineB c[i])) (adOf_or ad) (by rw [bs_size]; omega)) (by simp [hA, adOf]) ?_
        rw [bs_list, ← compB_take hlt]
        refine hC.vc [] 60 ?_
        simp
        exact go_to [(.can 0, .nm (.can 2))] (ih ⟨(i + 1, true), hlt, by
          rw [hn, List.drop_eq_getElem_cons hlt]
          simp only [okC, List.all_cons, hall, Bool.true_and], fun l hl e he => by
          rw [List.take_add_one, List.getElem?_eq_getElem hlt] at hl
          rcases List.mem_append.1 hl with h | h
          · exact hok l h e he
          · simp at h; rw [h] at he; exact hok2 e he⟩ (by simp; omega)) (by simp [hw1, adOf])
    · have htk : c.take i = c := List.take_of_length_le (by omega)
      rw [List.drop_eq_nil_of_le (by omega)] at hn
      have hk : okC c = true := by rw [hn]; rfl
      have h1 : printC c = ⟨(compB c).toArray⟩ := by rw [printC, if_pos hk]; rfl
      have h2 : printE c = 0 := by rw [printE, if_pos hk]
      rw [h1, h2] at hC
      simp [hlt, hA, adOf]
      rw [htk]
      refine hC.call [.loc 4, .can 0] (f40 tabs (adOf (.arg 0) ad) (compB c) (adOf_or ad)) (by simp [hA, adOf]) ?_
      refine hC.vc [] 60 ?_
      simp
end Go.Proofs.D
/-
  THE LAW'S OWN FUNCTIONS: can a complement be gone through?
-/
set_option linter.unusedVariables false
set_option linter.unusedSimpArgs false
namespace Go.Proofs.D
open Go Go.Abs Go.RowKit
attribute [local simp] VC VCS stepVS stepTopS firstId memN bigB unmark markT mkOff calmP keepT boundB stepV stepTop stepReg stepOp stMove stPick stBin stUn stConv stBox stAlloc stLoad stStore stFieldAddr stField stExtract stNilCheck stMakeFunc stIndexAddr stIndex stLen
  stBuild placesOf fillA stBuildSlice sliceCells repL chunks allPV toPV drawOk drawOk.go mayMakeO mayMake1 disjoint pairOk Oper.apart Oper.looksAt Op.operands Call.operands Region.binds stAppend appBase appTail unName stSlice bndA
  LS.ev LS.get LS.blk LS.put LS.app LS.upd lkS lkH setS setH Nm.eqb guardOf nexts okPair dstOk AV.cellsOf takeAt putAt lkT sliceE fieldT intK isStrT isBoolT abin newOk LS.freshB LS.freshB.go LS.freshB.goH notIn AV.ments AV.ments.mentsL Blk.ments makes upsMents LS.start startL exitTo T T3 outs callSideO callSideD upsR backO freshAll argB onlyIO List.map List.append List.nil_append List.cons_append Nat.blt
  conv convS convH srcs srcOf blkOk leA leA.leL Go.Abs.leB leP laid laidM laidG isArg subH retP resAV resL res1 AV.frz AV.frz.frzL evL AV.ren AV.ren.renL Blk.ren renBs blksOf allSome nodupB onlyArgs blksMents callUps keyed inName inName.go backName callSide
theorem slotWt_drop {l : List Ent} {i : Nat} (h : i < l.length) : ((l.drop i).map Ent.wt).sum = l[i].wt + ((l.drop (i + 1)).map Ent.wt).sum := by
  rw [List.drop_eq_getElem_cons h]; simp
theorem compWt_drop {c : Cm} {i : Nat} (h : i < c.length) : compWt (c.drop i) = slotWt c[i] + compWt (c.drop (i + 1)) := by
  rw [List.drop_eq_getElem_cons h]; simp [compWt]
theorem f36x (Gl : Granted) (l : List N) (left : Int) (hs : ∀ x ∈ l, x.small) (h1 : -1000000000000000 ≤ left) (h2 : left ≤ 1000000) : Fun Tryz.prog Gl 33 [.agg [vS ⟨#[]⟩, vS ⟨#[]⟩, .pv (.nilS 1), .pv (.nilS 2), .pv (nodes l)], vI left] [] (vI (lessB left (1 + N.wt.go l))) [] := by
  have h := f36 Gl (.mk ⟨#[]⟩ ⟨#[]⟩ [] [] l) left ((N.small_eq _).2 ⟨Nat.zero_le _, Nat.zero_le _, by simp [N.marks], by simp [N.attrs], hs⟩) h1 h2
  have hw : (N.mk ⟨#[]⟩ ⟨#[]⟩ [] [] l).wt = 1 + N.wt.go l := by
    rw [N.wt_eq]
    simp only [N.kind, N.text, N.marks, N.attrs, N.kids, names1, attrs1, List.map_nil, List.sum_nil]
    have h0 : (⟨#[]⟩ : ByteArray).size = 0 := rfl
    omega
  rw [hw] at h
  exact fun_nils h
def Ent.small (e : Ent) : Prop := e.value.size ≤ M47 ∧ ∀ x ∈ e.rest, x.small
set_option maxRecDepth 20000 in
set_option maxHeartbeats 2000000 in
theorem f22 (Gl : Granted) (c : Cm) (hs : ∀ l ∈ c, ∀ e ∈ l, Ent.small e) : Fun Tryz.prog Gl 8 [.pv (comp c)] [] (vB (decide (compWt c < 1500))) [] := by
  refine fun_of (T := T3) (n := 54) (rs := [.tmp 2]) Tryz.func8 (by kernel_rfl) rfl rfl rfl tok3 mixed (by simp) fun C hC => ?_
  refine hC.vc [] 60 ?_
  simp
  refine go_len 0 1 (c.map fun l => [slot l]) (by simp) fun hcl => ?_
  rw [List.length_map] at hcl
  refine go_loop (ι := {x : Nat × Int // x.1 ≤ c.length ∧ -1000000000000000 ≤ x.2 ∧ x.2 ≤ 1500 ∧ (x.2 - compWt (c.drop x.1) = 1500 - compWt c ∨ (x.2 ≤ 0 ∧ 1500 - (compWt c : Int) < 1))}) (fun x => ⟨[(0, .pv (comp c)), (3, vI x.1.2), (4, vI x.1.1)], []⟩)
    (fun x => c.length - x.1.1) ⟨(0, 1500), by simp⟩ [] (by simp) fun x ih => ?_
  obtain ⟨⟨i, l⟩, hi, hb1, hb2, hD⟩ := x
  simp only at hi hb1 hb2 hD ih
  by_cases hgo : i < c.length ∧ 0 < l
  · obtain ⟨hlt, hp⟩ := hgo
    have hwi := wr64 ((i : Int) + 1) (by omega)
    have v1 := wr64 (l - 1) (by omega)
    have hd := compWt_drop hlt
    refine hC.vc [] 60 ?_
    simp [hlt, hp, v1]
    refine go_loop (ι := {x : Nat × Int // x.1 ≤ c[i].length ∧ -1000000000000000 ≤ x.2 ∧ x.1 + x.2 ≤ 1500 ∧ (x.2 - ((c[i].drop x.1).map Ent.wt).sum - compWt (c.drop (i + 1)) = 1500 - compWt c ∨ (x.2 ≤ 0 ∧ 1500 - (compWt c : Int) < 1))}) (fun x => ⟨[(0, .pv (comp c)), (3, vI x.1.2), (4, vI i), (5, vI x.1.1)], []⟩)
      (fun x => c[i].length - x.1.1) ⟨(0, l - 1), by
        simp only [List.drop_zero, Nat.zero_le, true_and]
        unfold slotWt at hd
        omega⟩ [] (by simp) fun x ih2 => ?_
    obtain ⟨⟨k, m⟩, hk, hc1, hc2, hE⟩ := x
    simp only at hk hc1 hc2 hE ih2
    by_cases hgo2 : k < c[i].length ∧ 0 < m
    · obtain ⟨hlk, hpm⟩ := hgo2
      obtain ⟨t1, t2⟩ := hs c[i] (by simp) c[i][k] (by simp)
      have e47 : M47 = 140737488355328 := rfl
      rw [e47] at t1
      have v2 := wr64 (m - c[i][k].value.size) (by omega)
      have hd2 := slotWt_drop hlk
      have hew : c[i][k].wt = 1 + c[i][k].value.size + N.wt.go c[i][k].rest := rfl
      obtain ⟨r, hr⟩ : ∃ r, lessB (m - c[i][k].value.size) (1 + N.wt.go c[i][k].rest) = r := ⟨_, rfl⟩
      have hf := f36x Gl c[i][k].rest (m - c[i][k].value.size) t2 (by omega) (by omega)
      rw [hr] at hf
      unfold lessB at hr
      refine hC.vc [] 60 ?_
      simp [hlt, hlk, hpm, Ent.pv_eq, v2]
      refine hC.call [] hf (by simp) ?_
      have hwk := wr64 ((k : Int) + 1) (by omega)
      refine hC.vc [] 60 ?_
      simp
      refine go_to [] (ih2 ⟨(k + 1, r), by dsimp only; omega, ?_⟩ (by simp; omega)) (by simp [hwk])
      dsimp only
      split at hr <;> omega
    · have hE2 : m - compWt (c.drop (i + 1)) = 1500 - compWt c ∨ (m ≤ 0 ∧ 1500 - (compWt c : Int) < 1) := by
        rcases hE with hE | hE
        · by_cases hlk : k < c[i].length
          · right; constructor <;> omega
          · left
            rw [List.drop_eq_nil_of_le (by omega)] at hE
            simp only [List.map_nil, List.sum_nil] at hE
            omega
        · exact .inr hE
      refine hC.vc [] 60 ?_
      by_cases hlk : k < c[i].length
      · have hq : ¬ 0 < m := fun h => hgo2 ⟨hlk, h⟩
        simp [hlt, hlk, hq]
        exact go_to [] (ih ⟨(i + 1, m), by dsimp only; omega, hc1, by dsimp only; omega, hE2⟩ (by simp; omega)) (by simp [hwi])
      · simp [hlt, hlk]
        exact go_to [] (ih ⟨(i + 1, m), by dsimp only; omega, hc1, by dsimp only; omega, hE2⟩ (by simp; omega)) (by simp [hwi])
  · have hfin : decide (compWt c < 1500) = decide (0 < l) := by
      have : compWt c < 1500 ↔ 0 < l := by
        by_cases hlt : i < c.length
        · constructor <;> intro h <;> omega
        · rw [List.drop_eq_nil_of_le (by omega)] at hD
          simp only [compWt, List.map_nil, List.sum_nil] at hD
          constructor <;> intro h <;> simp only [compWt] at * <;> omega
      exact decide_eq_decide.2 this
    rw [hfin] at hC
    refine hC.vc [] 60 ?_
    by_cases hlt : i < c.length
    · have hq : ¬ 0 < l := fun h => hgo ⟨hlt, h⟩
      simp [hlt, hq]
    · simp [hlt]
end Go.Proofs.D
/-
  COMPLEMENTS, as they are read: what is written is read as it was.
-/
set_option linter.unusedVariables false
set_option linter.unusedSimpArgs false
namespace Go.Proofs.D
open Go Go.Abs
def n0 : N := .mk ⟨#[]⟩ ⟨#[]⟩ [] [] []
def readN (s : Bs) : N × Rs := nodeF (s.length + 1) (s, false)
def badN (s : Bs) : Bool := (readN s).2.2 || !decide ((readN s).2.1 = []) || !decide ((readN s).1.w = s) || decide ((readN s).1.check = 2)
def parseN (s : Bs) : N × Int := if badN s = true then (n0, 2) else if (readN s).1.check = 0 then ((readN s).1, 0) else (n0, (readN s).1.check)
def parseAllB (s : Bs) : List N × Int := ((parseN (120 :: 91 :: (s ++ [93]))).1.kids, (parseN (120 :: 91 :: (s ++ [93]))).2)
def e0 : Ent := ⟨false, ⟨#[]⟩, []⟩
def headIs (c : UInt8) (l : Bs) : Bool := match l with | [] => false | x :: _ => decide (x = c)
theorem headIs_takes (c : UInt8) (l : Bs) : (takesB c l).1 = headIs c l := by
  cases l with
  | nil => rfl
  | cons x l => simp only [takesB, headIs]; split <;> simp [*]
def innerB (t : Bs) : Bs := (t.take (endB t - 1)).drop 1
/-- What a text says behind the value's. -/
def restB (v : ByteArray) (t : Bs) : Ent × Bs × Bool :=
  if headIs 91 t = true then (if endB t = 0 then (e0, [], false) else (⟨true, v, (parseAllB (innerB t)).1⟩, t.drop (endB t), decide ((parseAllB (innerB t)).2 = 0) && decide (0 < (parseAllB (innerB t)).1.length)))
  else (⟨true, v, []⟩, t, true)
def entryB (t : Bs) : Ent × Bs × Bool :=
  if headIs 45 t = true then (e0, t.drop 1, true)
  else if headIs 61 t = true ∧ endB (t.drop 1) ≠ 0 ∧ headIs 34 (t.drop 1) = true then restB (bytesOf (unquoteB ((t.drop 1).take (endB (t.drop 1))))) ((t.drop 1).drop (endB (t.drop 1)))
  else (e0, [], false)
def trimB (c : UInt8) (t : Bs) : Bs := if headIs c t = true then t.drop 1 else t
def pLoop : Nat → Cm → List Ent → Bs → Option Cm
  | 0, c, s, t => if t = [] then some c else none
  | k + 1, c, s, t => if t = [] then some c else if headIs 10 t = true then pLoop k (c ++ [s]) [] (t.drop 1) else
      if (entryB (trimB 32 t)).2.2 = true then pLoop k c (s ++ [(entryB (trimB 32 t)).1]) (entryB (trimB 32 t)).2.1 else none
def parseC (t : Bs) : Cm × Int := match pLoop t.length [] [] t with
  | none => ([], 2)
  | some c => if okC c = true ∧ compB c = t then (c, 0) else ([], 2)
/-! ### how heavy -/
theorem endGo_ge : ∀ (l : Bs) (o : Int) (q sk : Bool) (i : Nat), endGo o q sk i l = 0 ∨ i + 1 ≤ endGo o q sk i l
  | [], _, _, sk, i => by cases sk <;> simp [endGo]
  | c :: l, o, q, true, i => by
    have := endGo_ge l o q false (i + 1)
    simp only [endGo]; omega
  | c :: l, o, q, false, i => by
    simp only [endGo]
    split
    · have := endGo_ge l o q true (i + 1); omega
    · split
      · have := endGo_ge l o q false (i + 1); omega
      · rename_i o' q' _
        split
        · right; omega
        · have := endGo_ge l o' q' false (i + 1); omega
theorem end_two {c : UInt8} {t : Bs} (hc : c = 91 ∨ c = 34) (h : headIs c t = true) (h0 : endB t ≠ 0) : 2 ≤ endB t ∧ endB t ≤ t.length := by
  cases t with
  | nil => simp [headIs] at h
  | cons x l =>
    simp only [headIs, decide_eq_true_eq] at h
    subst h
    have hle := endGo_le (x :: l) 0 false false 0
    refine ⟨?_, by unfold endB; omega⟩
    unfold endB at h0 ⊢
    rcases hc with rfl | rfl
    · have e : endGo 0 false false 0 (91 :: l) = endGo 1 false false 1 l := by simp [endGo, stepS]
      rw [e] at h0 ⊢
      rcases endGo_ge l 1 false false 1 with h | h <;> omega
    · have e : endGo 0 false false 0 (34 :: l) = endGo 0 true false 1 l := by simp [endGo, stepS]
      rw [e] at h0 ⊢
      rcases endGo_ge l 0 true false 1 with h | h <;> omega
theorem n0_wt : n0.wt = 1 := by
  rw [N.wt_eq]
  have h0 : (⟨#[]⟩ : ByteArray).size = 0 := rfl
  simp [n0, N.kind, N.text, N.marks, N.attrs, N.kids, names1, attrs1, N.wt.go, h0]
theorem parseN_wt (s : Bs) : (parseN s).1.wt ≤ 6 * s.length + 6 := by
  have := node_wt s
  have h0 := n0_wt
  unfold parseN
  split
  · simp only; omega
  · split
    · exact this
    · simp only; omega
theorem parseAll_wt (s : Bs) : N.wt.go (parseAllB s).1 ≤ 6 * s.length + 23 := by
  have h := parseN_wt (120 :: 91 :: (s ++ [93]))
  rw [N.wt_eq] at h
  simp only [List.length_cons, List.length_append, List.length_nil] at h
  simp only [parseAllB]
  omega
theorem unquote_len (s : Bs) : (unquoteB s).length ≤ s.length - 1 := by
  have := (unqGo_len (s.drop 1)).1
  simp only [List.length_drop] at this
  unfold unquoteB
  omega
theorem entry_wt (t : Bs) (h : (entryB t).2.2 = true) : (entryB t).1.wt + 7 * (entryB t).2.1.length ≤ 7 * t.length ∧ (entryB t).2.1.length < t.length := by
  have w0 : e0.wt = 1 := by
    have h0 : (⟨#[]⟩ : ByteArray).size = 0 := rfl
    simp [Ent.wt, e0, N.wt.go, h0]
  unfold entryB at h ⊢
  split
  · rename_i hc
    have ht : 0 < t.length := by cases t with | nil => simp [headIs] at hc | cons x l => simp
    simp only [List.length_drop]
    omega
  · rename_i hc
    rw [if_neg hc] at h
    split
    · rename_i hc2
      rw [if_pos hc2] at h
      obtain ⟨c1, c2, c3⟩ := hc2
      have ht : 0 < t.length := by cases t with | nil => simp [headIs] at c1 | cons x l => simp
      obtain ⟨g1, g2⟩ := end_two (.inr rfl) c3 c2
      have hv := unquote_len ((t.drop 1).take (endB (t.drop 1)))
      simp only [List.length_drop, List.length_take] at hv g2
      generalize hto : endB (t.drop 1) = w at *
      unfold restB at h ⊢
      split
      · rename_i hb
        rw [if_pos hb] at h
        split
        · rename_i h0
          rw [if_pos h0] at h
          cases h
        · rename_i h0
          obtain ⟨k1, k2⟩ := end_two (.inl rfl) hb h0
          have hp := parseAll_wt (innerB ((t.drop 1).drop w))
          have hi : (innerB ((t.drop 1).drop w)).length = endB ((t.drop 1).drop w) - 2 := by
            simp only [innerB, List.length_drop, List.length_take] at k2 ⊢
            omega
          rw [hi] at hp
          simp only [List.length_drop] at k2
          simp only [Ent.wt, bytesOf_size, List.length_drop]
          omega
      · simp only [Ent.wt, bytesOf_size, N.wt.go, List.length_drop]
        omega
    · rename_i hc2
      rw [if_neg hc2] at h
      cases h
theorem trim_le (c : UInt8) (t : Bs) : (trimB c t).length ≤ t.length := by
  unfold trimB
  split
  · simp
  · exact Nat.le_refl _
theorem pLoop_wt : ∀ (k : Nat) (c : Cm) (s : List Ent) (t : Bs) (d : Cm), pLoop k c s t = some d → compWt d ≤ compWt c + (s.map Ent.wt).sum + 7 * t.length
  | 0, c, s, t, d, h => by
    simp only [pLoop] at h
    split at h
    · cases h; omega
    · cases h
  | k + 1, c, s, t, d, h => by
    simp only [pLoop] at h
    split at h
    · cases h; omega
    · split at h
      · rename_i ht hc
        have ht' : 0 < t.length := List.length_pos_iff.2 ht
        have := pLoop_wt k _ _ _ d h
        rw [compWt_append] at this
        simp only [compWt, List.map_cons, List.map_nil, List.sum_cons, List.sum_nil, slotWt, List.length_drop] at this ⊢
        omega
      · split at h
        · rename_i hok
          have h1 := entry_wt _ hok
          have h2 := trim_le 32 t
          have := pLoop_wt k _ _ _ d h
          simp only [List.map_append, List.map_cons, List.map_nil, List.sum_append, List.sum_cons, List.sum_nil] at this
          omega
        · cases h
theorem parseC_wt (t : Bs) : compWt (parseC t).1 ≤ 7 * t.length := by
  unfold parseC
  split
  · simp [compWt]
  · rename_i c hc
    have := pLoop_wt _ _ _ _ _ hc
    split
    · simpa [compWt] using this
    · simp [compWt]
/-! ### what is written is read -/
theorem headIs_stop {c : UInt8} {l : Bs} (h : Stop (· == c) l) : headIs c l = false := by
  rw [← headIs_takes, takes_miss h]
theorem parseAll_app (l : List N) (h : (xOf l).check = 0) : parseAllB (N.w.go l) = (l, 0) := by
  have hf := check_form h
  have hr := node_app (((xOf l).w ++ []).length + 1) (xOf l) [] hf stop_nil (Nat.lt_succ_self _)
  rw [List.append_nil, x_w] at hr
  have hr' : readN (120 :: 91 :: (N.w.go l ++ [93])) = (xOf l, ([], false)) := hr
  have hb : badN (120 :: 91 :: (N.w.go l ++ [93])) = false := by
    simp only [badN, hr', x_w, h]
    simp
  simp only [parseAllB, parseN, hb, Bool.false_eq_true, if_false, hr', h, if_true]
  rfl
theorem entry_app (e : Ent) (r : Bs) (he : e.ok = true) (hr : Stop (· == 91) r) : entryB (e.w ++ r) = (e, r, true) := by
  unfold Ent.ok at he
  cases hh : e.has with
  | false =>
    rw [hh] at he
    simp [Ent.none] at he
    have hw : e.w = [45] := by simp [Ent.w, hh]
    have : e = e0 := Ent.ext' hh he.1 he.2
    rw [hw, this]
    simp [entryB, headIs]
  | true =>
    rw [hh] at he
    simp only [if_true, Bool.and_eq_true, decide_eq_true_eq] at he
    have hf := x_form (check_form he.2)
    have hg := go_nil hf
    have hw : e.w ++ r = 61 :: (quoteB e.value.data.toList ++ ((if N.w.go e.rest = [] then [] else 91 :: (N.w.go e.rest ++ [93])) ++ r)) := by
      simp [Ent.w, hh]
    generalize hX : (if N.w.go e.rest = [] then [] else 91 :: (N.w.go e.rest ++ [93])) ++ r = X at hw
    have h1 : headIs 45 (e.w ++ r) = false := by rw [hw]; simp [headIs]
    have h2 : headIs 61 (e.w ++ r) = true := by rw [hw]; simp [headIs]
    have h3 : (e.w ++ r).drop 1 = quoteB e.value.data.toList ++ X := by rw [hw]; rfl
    have h4 : headIs 34 (quoteB e.value.data.toList ++ X) = true := by simp [quoteB, headIs]
    have h5 : endB (quoteB e.value.data.toList ++ X) = (quoteB e.value.data.toList).length := endB_quote _ _
    have h6 : (quoteB e.value.data.toList).length ≠ 0 := by simp [quoteB]
    unfold entryB
    rw [h1, h2, h3, h4, h5, if_neg (by simp), if_pos ⟨rfl, h6, rfl⟩, List.take_left, List.drop_left, unquote_quote, bytesOf_list]
    unfold restB
    by_cases h0 : e.rest = []
    · have : X = r := by rw [← hX, if_pos (hg.2 h0)]; rfl
      rw [this, headIs_stop hr]
      simp only [Bool.false_eq_true, if_false, Prod.mk.injEq, and_true]
      exact Ent.ext' hh.symm rfl h0.symm
    · have hX2 : X = 91 :: (N.w.go e.rest ++ 93 :: r) := by rw [← hX, if_neg (fun h => h0 (hg.1 h))]; simp
      have h7 := endB_kids e.rest r hf
      have h8 : headIs 91 X = true := by rw [hX2]; simp [headIs]
      have h9 : innerB X = N.w.go e.rest := by
        unfold innerB
        rw [hX2, h7, show (N.w.go e.rest).length + 2 - 1 = (N.w.go e.rest).length + 1 by omega, List.take_succ_cons, List.drop_succ_cons, List.drop_zero, List.take_left]
      have h10 : X.drop (endB X) = r := by
        rw [hX2, h7]
        have e1 : 91 :: (N.w.go e.rest ++ 93 :: r) = (91 :: (N.w.go e.rest ++ [93])) ++ r := by simp
        have e2 : (N.w.go e.rest).length + 2 = (91 :: (N.w.go e.rest ++ [93])).length := by simp
        rw [e1, e2, List.drop_left]
      have h11 : endB X ≠ 0 := by rw [hX2, h7]; omega
      rw [h8, if_pos rfl, if_neg h11, h9, h10, parseAll_app _ he.2]
      have hl : 0 < e.rest.length := List.length_pos_iff.2 h0
      simp only [hl, decide_true, Bool.and_self, Prod.mk.injEq, and_true]
      exact Ent.ext' hh.symm rfl rfl
theorem line_tail : ∀ (l : List Ent) (k : Nat) (c : Cm) (s : List Ent) (r : Bs), (∀ e ∈ l, Ent.ok e = true) → pLoop (k + l.length + 1) c s (sepTail 32 (l.map Ent.w) ++ 10 :: r) = pLoop k (c ++ [s ++ l]) [] r
  | [], k, c, s, r, _ => by
    simp [sepTail, pLoop, headIs]
  | e :: l, k, c, s, r, h => by
    have ih := line_tail l k c (s ++ [e]) r (fun x hx => h x (by simp [hx]))
    have e1 : sepTail 32 ((e :: l).map Ent.w) ++ 10 :: r = 32 :: (e.w ++ (sepTail 32 (l.map Ent.w) ++ 10 :: r)) := by simp [sepTail]
    have hst : Stop (· == 91) (sepTail 32 (l.map Ent.w) ++ 10 :: r) := by
      cases l with
      | nil => exact stop_cons (by decide)
      | cons x l => exact stop_cons (by decide)
    have h1 := entry_app e _ (h e (by simp)) hst
    rw [e1, show k + (e :: l).length + 1 = (k + l.length + 1) + 1 by simp; omega, pLoop]
    have h2 : trimB 32 (32 :: (e.w ++ (sepTail 32 (l.map Ent.w) ++ 10 :: r))) = e.w ++ (sepTail 32 (l.map Ent.w) ++ 10 :: r) := by simp [trimB, headIs]
    have h3 : headIs 10 (32 :: (e.w ++ (sepTail 32 (l.map Ent.w) ++ 10 :: r))) = false := by simp [headIs]
    rw [h2, h3, h1, if_neg (by simp), if_neg (by simp), if_pos rfl]
    simp only
    rw [ih]
    simp
theorem line_app (l : List Ent) (k : Nat) (c : Cm) (r : Bs) (h : ∀ e ∈ l, Ent.ok e = true) : pLoop (k + l.length + 1) c [] (lineB l ++ r) = pLoop k (c ++ [l]) [] r := by
  cases l with
  | nil => simp [lineB, sepBy, pLoop, headIs]
  | cons e l =>
    obtain ⟨x, t, h1, h2⟩ := ent_first e
    have hx : x = 61 ∨ x = 45 := by
      unfold Ent.w at h1
      split at h1 <;> (simp at h1; simp [h1])
    have hst : Stop (· == 91) (sepTail 32 (l.map Ent.w) ++ 10 :: r) := by
      cases l with
      | nil => exact stop_cons (by decide)
      | cons x l => exact stop_cons (by decide)
    have h3 := entry_app e _ (h e (by simp)) hst
    have e1 : lineB (e :: l) ++ r = e.w ++ (sepTail 32 (l.map Ent.w) ++ 10 :: r) := by simp [lineB, sepBy]
    have h4 : headIs 10 (e.w ++ (sepTail 32 (l.map Ent.w) ++ 10 :: r)) = false := by simp [h1, headIs, h2]
    have h5 : trimB 32 (e.w ++ (sepTail 32 (l.map Ent.w) ++ 10 :: r)) = e.w ++ (sepTail 32 (l.map Ent.w) ++ 10 :: r) := by
      have : ¬ x = 32 := by rcases hx with rfl | rfl <;> decide
      simp [trimB, h1, headIs, this]
    have h6 : ¬ e.w ++ (sepTail 32 (l.map Ent.w) ++ 10 :: r) = [] := by simp [h1]
    rw [e1, show k + (e :: l).length + 1 = (k + l.length + 1) + 1 by simp; omega, pLoop, h4, h5, h3, if_neg h6, if_neg (by simp), if_pos rfl]
    simp only [List.nil_append]
    have := line_tail l k c [e] r (fun x hx => h x (by simp [hx]))
    rw [this]
    rfl
def stepsC (c : Cm) : Nat := (c.map fun l => l.length + 1).sum
theorem comp_app : ∀ (d : Cm) (k : Nat) (c : Cm), okC d = true → pLoop (k + stepsC d) c [] (compB d) = some (c ++ d)
  | [], k, c, _ => by
    cases k <;> simp [stepsC, compB, pLoop]
  | l :: d, k, c, h => by
    simp only [okC, List.all_cons, Bool.and_eq_true, List.all_eq_true] at h
    have ih := comp_app d k (c ++ [l]) (by simp only [okC, List.all_eq_true]; exact h.2)
    have e1 : k + stepsC (l :: d) = (k + stepsC d) + l.length + 1 := by simp [stepsC]; omega
    rw [e1, compB, line_app l _ c _ h.1, ih]
    simp
theorem steps_le : ∀ c : Cm, stepsC c ≤ (compB c).length
  | [] => by simp [stepsC]
  | l :: c => by
    have ih := steps_le c
    have hl : l.length + 1 ≤ (lineB l).length := by
      simp only [lineB, List.length_append, List.length_cons, List.length_nil]
      have ht : ∀ l : List Ent, l.length ≤ (sepTail 32 (l.map Ent.w)).length := by
        intro l
        induction l with
        | nil => simp
        | cons e l ih => simp [sepTail] at ih ⊢; omega
      cases l with
      | nil => simp
      | cons e l =>
        obtain ⟨x, t, h1, _⟩ := ent_first e
        have := ht l
        simp only [List.map_cons, sepBy, List.length_append, List.length_cons, h1]
        omega
    simp only [stepsC, List.map_cons, List.sum_cons, compB, List.length_append] at ih ⊢
    omega
/-- What is written is read as it was. -/
theorem parse_print (c : Cm) (h : okC c = true) : parseC (compB c) = (c, 0) := by
  have h1 := comp_app c ((compB c).length - stepsC c) [] h
  rw [Nat.sub_add_cancel (steps_le c), List.nil_append] at h1
  unfold parseC
  rw [h1]
  simp [h]
end Go.Proofs.D
/-
  THE ARGUMENTS, as the row reads them: nodes, complements.
-/
set_option linter.unusedVariables false
set_option linter.unusedSimpArgs false
namespace Go.Proofs.D
open Go Go.Abs Go.RowKit Go.ChangeShapes Go.WideShapes
section
variable {H : Type} {enc : TypeId × Value → H} {W : World}
/-- Nothing in it weighs more than the form reaches. -/
def Fits (t : TypeId) (d : DataW H) : Prop := ∀ k ∈ d.weights Tryz.prog t, k ≤ reachBytes
theorem weights_mem_all {e : TypeId} : ∀ {ds : List (DataW H)} {d : DataW H}, d ∈ ds → ∀ k ∈ d.weights Tryz.prog e, k ∈ DataW.weightsAll Tryz.prog e ds
  | x :: ds, d, hd, k, hk => by
    simp only [DataW.weightsAll, List.mem_append]
    rcases List.mem_cons.1 hd with rfl | hd
    · exact .inl hk
    · exact .inr (weights_mem_all hd k hk)
theorem fits_slice {t e : TypeId} (ht : Tryz.prog.underlying t = some (.slice e)) {es sp : List (DataW H)} (h : Fits t (.slice es sp)) : ∀ d ∈ es, Fits e d := fun d hd k hk => by
  refine h k ?_
  simp only [DataW.weights, ht, List.mem_cons, List.mem_append]
  exact .inr (.inl (weights_mem_all hd k hk))
theorem fits_struct {t : TypeId} {fs : Array Field} (ht : Tryz.prog.underlying t = some (.struct fs)) {ps : List (DataW H)} (h : Fits t (.agg ps)) {j : Nat} {f : Field} {d : DataW H} (hf : fs[j]? = some f) (hd : ps[j]? = some d) : Fits f.type d := fun k hk => by
  refine h k ?_
  simp only [DataW.weights, ht]
  exact DataW.weights_mem_each (j := j) (by simp [hf]) hd k hk
theorem str_fits {n : Nat} {cs : List Value} {x : DataW H × List MemPlace} (h : DataW.trod enc Tryz.prog W 0 (fun _ => true) true n 9 cs = some x) (hf : Fits 9 x.1) : ∃ s : ByteArray, cs = [.string s] ∧ s.size ≤ M47 := by
  obtain ⟨s, h1, rfl, h2⟩ := DataW.trod_string Tryz.underlying9 h
  refine ⟨s, h1, ?_⟩
  have := hf s.data.toList.length (by simp [DataW.weights])
  have h3 := reachBytes_lt
  rw [bsz] at this
  have e47 : M47 = 140737488355328 := rfl
  omega
theorem cells116 : Tryz.prog.cellsOf 136 = 2 := by kernel_rfl
theorem cells79 : Tryz.prog.cellsOf 87 = 5 := by kernel_rfl
theorem cells70 : Tryz.prog.cellsOf 78 = 3 := by kernel_rfl
theorem cells72 : Tryz.prog.cellsOf 80 = 1 := by kernel_rfl
theorem cells42 : Tryz.prog.cellsOf 40 = 1 := by kernel_rfl
theorem cells77 : Tryz.prog.cellsOf 85 = 1 := by kernel_rfl
theorem cells68 : Tryz.prog.cellsOf 76 = 1 := by kernel_rfl
theorem cells4 : Tryz.prog.cellsOf 4 = 1 := by kernel_rfl
theorem again4 (n : Nat) : Again H enc Tryz.prog n 4 := again_bool Tryz.underlying4 n
theorem again116 (n : Nat) : Again H enc Tryz.prog n 136 := again_struct Tryz.underlying136 n fun m hm i f hf => by
  match i, hf with
  | 0, hf => simp at hf; subst hf; exact again9 m
  | 1, hf => simp at hf; subst hf; exact again9 m
  | i + 2, hf => simp at hf
theorem again77 (n : Nat) : Again H enc Tryz.prog n 85 := again_slice Tryz.underlying85 (by rw [cells116]; decide) n fun m _ => again116 m
theorem again79 (n : Nat) : Again H enc Tryz.prog n 87 := by
  induction n using Nat.strongRecOn with
  | _ n ih =>
    refine again_struct Tryz.underlying87 n fun m hm i f hf => ?_
    match i, hf with
    | 0, hf => simp at hf; subst hf; exact again9 m
    | 1, hf => simp at hf; subst hf; exact again9 m
    | 2, hf => simp at hf; subst hf; exact again42 m
    | 3, hf => simp at hf; subst hf; exact again77 m
    | 4, hf => simp at hf; subst hf; exact again_slice Tryz.underlying76 (by rw [cells79]; decide) m fun k hk => ih k (by omega)
    | i + 5, hf => simp at hf
theorem again68 (n : Nat) : Again H enc Tryz.prog n 76 := again_slice Tryz.underlying76 (by rw [cells79]; decide) n fun m _ => again79 m
theorem again70 (n : Nat) : Again H enc Tryz.prog n 78 := again_struct Tryz.underlying78 n fun m hm i f hf => by
  match i, hf with
  | 0, hf => simp at hf; subst hf; exact again4 m
  | 1, hf => simp at hf; subst hf; exact again9 m
  | 2, hf => simp at hf; subst hf; exact again68 m
  | i + 3, hf => simp at hf
theorem again72 (n : Nat) : Again H enc Tryz.prog n 80 := again_slice Tryz.underlying80 (by rw [cells70]; decide) n fun m _ => again70 m
theorem again47 (n : Nat) : Again H enc Tryz.prog n 23 := again_slice Tryz.underlying23 (by rw [cells72]; decide) n fun m _ => again72 m
instance : Inhabited N := ⟨.mk ⟨#[]⟩ ⟨#[]⟩ [] [] []⟩
instance : Inhabited Ent := ⟨⟨false, ⟨#[]⟩, []⟩⟩
theorem hoe_of {t e : TypeId} (ht : Tryz.prog.underlying t = some (.slice e)) {x : DataW H × List MemPlace} (hf : Fits t x.1) : ∀ es sp, x.1 = .slice es sp → ∀ d ∈ es, Fits e d := fun es sp hx d hd => fits_slice ht (hx ▸ hf) d hd
theorem reads42 (n : Nat) (cs : List Value) (x : DataW H × List MemPlace) (h : DataW.trod enc Tryz.prog W 0 (fun _ => true) true n 40 cs = some x) (hf : Fits 40 x.1) : ∃ (l : List ByteArray) (v : Value), cs = [v] ∧ (∀ s ∈ l, s.size ≤ M47) ∧ RepP W (allOf W) (strs l) v := by
  obtain ⟨l, v, h1, h2, h3, _⟩ := reads_sliceG (e := 9) (sz := 1) Tryz.underlying40 cells9 (by decide) (fun s : ByteArray => [.val (.string s)]) (fun s => s.size ≤ M47) (Fits 9) n (fun m _ cs x hx hfx => by
    obtain ⟨s, rfl, hs⟩ := str_fits hx hfx
    refine ⟨s, hs, rfl, fun j c v h3 h4 => ?_⟩
    match j, h3, h4 with
    | 0, h3, h4 => simp at h3 h4; subst h3 h4; exact .val _ rfl) cs x h (hoe_of Tryz.underlying40 hf)
  exact ⟨l, v, h1, h2, h3⟩
/-- The parts of a struct, each read. -/
theorem parts_of {t : TypeId} {fs : Array Field} (ht : Tryz.prog.underlying t = some (.struct fs)) {n : Nat} {cs : List Value} {x : DataW H × List MemPlace} (h : DataW.trod enc Tryz.prog W 0 (fun _ => true) true n t cs = some x) (hf : Fits t x.1) :
    cs.length = Tryz.prog.cellsOf t ∧ ∃ m, n = m + 1 ∧ ∀ (i : Nat) (f : Field), fs[i]? = some f → ∃ y, DataW.trod enc Tryz.prog W 0 (fun _ => true) true m f.type ((cs.drop f.offset).take (Tryz.prog.cellsOf f.type)) = some y ∧ Fits f.type y.1 := by
  obtain ⟨xs, m, rfl, rfl, hl, hx, hi⟩ := DataW.trod_struct ht h
  refine ⟨hl, m, rfl, fun i f hif => ?_⟩
  have hlt : i < xs.length := by rw [hx]; exact (Array.getElem?_eq_some_iff.1 hif).1
  have h1 := hi i f hif
  rw [List.getElem?_eq_getElem hlt] at h1
  exact ⟨xs[i], h1, fits_struct ht hf hif (by simp [hlt])⟩
set_option maxRecDepth 20000 in
theorem reads77 (n : Nat) (cs : List Value) (x : DataW H × List MemPlace) (h : DataW.trod enc Tryz.prog W 0 (fun _ => true) true n 85 cs = some x) (hf : Fits 85 x.1) : ∃ (l : List (ByteArray × ByteArray)) (v : Value), cs = [v] ∧ (∀ p ∈ l, p.1.size ≤ M47 ∧ p.2.size ≤ M47) ∧ RepP W (allOf W) (pairs l) v := by
  obtain ⟨l, v, h1, h2, h3, _⟩ := reads_sliceG (e := 136) (sz := 2) Tryz.underlying85 cells116 (by decide) (fun p : ByteArray × ByteArray => [.val (.string p.1), .val (.string p.2)]) (fun p => p.1.size ≤ M47 ∧ p.2.size ≤ M47) (Fits 136) n (fun m _ cs x hx hfx => by
    obtain ⟨hl, k, _, hp⟩ := parts_of Tryz.underlying136 hx hfx
    rw [cells116] at hl
    match cs, hl with
    | [a, b], _ =>
      obtain ⟨y0, g0, f0⟩ := hp 0 _ rfl
      obtain ⟨y1, g1, f1⟩ := hp 1 _ rfl
      replace g0 : DataW.trod enc Tryz.prog W 0 (fun _ => true) true k 9 [a] = some y0 := by simpa [cells9] using g0
      replace g1 : DataW.trod enc Tryz.prog W 0 (fun _ => true) true k 9 [b] = some y1 := by simpa [cells9] using g1
      obtain ⟨s, hs, hs'⟩ := str_fits g0 f0
      obtain ⟨t, ht, ht'⟩ := str_fits g1 f1
      cases hs
      cases ht
      refine ⟨(s, t), ⟨hs', ht'⟩, rfl, fun j c v h3 h4 => ?_⟩
      match j, h3, h4 with
      | 0, h3, h4 => simp at h3 h4; subst h3 h4; exact .val _ rfl
      | 1, h3, h4 => simp at h3 h4; subst h3 h4; exact .val _ rfl) cs x h (hoe_of Tryz.underlying85 hf)
  exact ⟨l, v, h1, h2, h3⟩
theorem npv_len (e : N) : e.pv.length = 5 := by rw [N.pv_eq]; rfl
set_option maxRecDepth 20000 in
theorem reads79 (n : Nat) : ∀ (cs : List Value) (x : DataW H × List MemPlace), DataW.trod enc Tryz.prog W 0 (fun _ => true) true n 87 cs = some x → Fits 87 x.1 →
    ∃ e : N, e.small ∧ cs.length = 5 ∧ ∀ (j : Nat) (c : PV) (v : Value), e.pv[j]? = some c → cs[j]? = some v → RepP W (allOf W) c v := by
  induction n using Nat.strongRecOn with
  | _ n ih =>
    intro cs x h hf
    obtain ⟨hl, m, rfl, hp⟩ := parts_of Tryz.underlying87 h hf
    rw [cells79] at hl
    match cs, hl with
    | [a, b, c, d, e], _ =>
      obtain ⟨y0, g0, f0⟩ := hp 0 _ rfl
      obtain ⟨y1, g1, f1⟩ := hp 1 _ rfl
      obtain ⟨y2, g2, f2⟩ := hp 2 _ rfl
      obtain ⟨y3, g3, f3⟩ := hp 3 _ rfl
      obtain ⟨y4, g4, f4⟩ := hp 4 _ rfl
      replace g0 : DataW.trod enc Tryz.prog W 0 (fun _ => true) true m 9 [a] = some y0 := by simpa [cells9] using g0
      replace g1 : DataW.trod enc Tryz.prog W 0 (fun _ => true) true m 9 [b] = some y1 := by simpa [cells9] using g1
      replace g2 : DataW.trod enc Tryz.prog W 0 (fun _ => true) true m 40 [c] = some y2 := by simpa [cells42] using g2
      replace g3 : DataW.trod enc Tryz.prog W 0 (fun _ => true) true m 85 [d] = some y3 := by simpa [cells77] using g3
      replace g4 : DataW.trod enc Tryz.prog W 0 (fun _ => true) true m 76 [e] = some y4 := by simpa [cells68] using g4
      obtain ⟨s, q0, s0⟩ := str_fits g0 f0
      obtain ⟨t, q1, s1⟩ := str_fits g1 f1
      obtain ⟨mk, v2, q2, s2, r2⟩ := reads42 m _ _ g2 f2
      obtain ⟨at', v3, q3, s3, r3⟩ := reads77 m _ _ g3 f3
      obtain ⟨l, v4, q4, s4, r4, _⟩ := reads_sliceG (e := 87) (sz := 5) Tryz.underlying76 cells79 (by decide) N.pv N.small (Fits 87) m (fun k hk cs x hx hfx => by
        obtain ⟨e, a1, a2, a3⟩ := ih k (by omega) cs x hx hfx
        exact ⟨e, a1, npv_len e, a3⟩) _ _ g4 (hoe_of Tryz.underlying76 f4)
      cases q0
      cases q1
      cases q2
      cases q3
      cases q4
      refine ⟨.mk s t mk at' l, (N.small_eq _).2 ⟨s0, s1, s2, s3, s4⟩, rfl, fun j c v h3 h4 => ?_⟩
      rw [N.pv_eq] at h3
      match j, h3, h4 with
      | 0, h3, h4 => simp at h3 h4; subst h3 h4; exact .val _ rfl
      | 1, h3, h4 => simp at h3 h4; subst h3 h4; exact .val _ rfl
      | 2, h3, h4 => simp at h3 h4; subst h3 h4; exact r2
      | 3, h3, h4 => simp at h3 h4; subst h3 h4; exact r3
      | 4, h3, h4 => simp at h3 h4; subst h3 h4; exact r4
theorem reads68 (n : Nat) (cs : List Value) (x : DataW H × List MemPlace) (h : DataW.trod enc Tryz.prog W 0 (fun _ => true) true n 76 cs = some x) (hf : Fits 76 x.1) : ∃ (l : List N) (v : Value), cs = [v] ∧ (∀ y ∈ l, y.small) ∧ RepP W (allOf W) (nodes l) v := by
  obtain ⟨l, v, h1, h2, h3, _⟩ := reads_sliceG (e := 87) (sz := 5) Tryz.underlying76 cells79 (by decide) N.pv N.small (Fits 87) n (fun k hk cs x hx hfx => by
    obtain ⟨e, a1, a2, a3⟩ := reads79 k cs x hx hfx
    exact ⟨e, a1, npv_len e, a3⟩) _ _ h (hoe_of Tryz.underlying76 hf)
  exact ⟨l, v, h1, h2, h3⟩
set_option maxRecDepth 20000 in
theorem reads72 (n : Nat) (cs : List Value) (x : DataW H × List MemPlace) (h : DataW.trod enc Tryz.prog W 0 (fun _ => true) true n 80 cs = some x) (hf : Fits 80 x.1) : ∃ (l : List Ent) (v : Value), cs = [v] ∧ (∀ e ∈ l, Ent.small e) ∧ RepP W (allOf W) (slot l) v := by
  obtain ⟨l, v, h1, h2, h3, _⟩ := reads_sliceG (e := 78) (sz := 3) Tryz.underlying80 cells70 (by decide) Ent.pv Ent.small (Fits 78) n (fun m _ cs x hx hfx => by
    obtain ⟨hl, k, _, hp⟩ := parts_of Tryz.underlying78 hx hfx
    rw [cells70] at hl
    match cs, hl with
    | [a, b, c], _ =>
      obtain ⟨y0, g0, f0⟩ := hp 0 _ rfl
      obtain ⟨y1, g1, f1⟩ := hp 1 _ rfl
      obtain ⟨y2, g2, f2⟩ := hp 2 _ rfl
      replace g0 : DataW.trod enc Tryz.prog W 0 (fun _ => true) true k 4 [a] = some y0 := by simpa [cells4] using g0
      replace g1 : DataW.trod enc Tryz.prog W 0 (fun _ => true) true k 9 [b] = some y1 := by simpa [cells9] using g1
      replace g2 : DataW.trod enc Tryz.prog W 0 (fun _ => true) true k 76 [c] = some y2 := by simpa [cells68] using g2
      obtain ⟨b0, q0, _⟩ := DataW.trod_bool Tryz.underlying4 g0
      obtain ⟨s, q1, s1⟩ := str_fits g1 f1
      obtain ⟨l, v2, q2, s2, r2⟩ := reads68 k _ _ g2 f2
      cases q0
      cases q1
      cases q2
      refine ⟨⟨b0, s, l⟩, ⟨s1, s2⟩, rfl, fun j c v h3 h4 => ?_⟩
      match j, h3, h4 with
      | 0, h3, h4 => simp [Ent.pv] at h3 h4; subst h3 h4; exact .val _ rfl
      | 1, h3, h4 => simp [Ent.pv] at h3 h4; subst h3 h4; exact .val _ rfl
      | 2, h3, h4 => simp [Ent.pv] at h3 h4; subst h3 h4; exact r2) cs x h (hoe_of Tryz.underlying80 hf)
  exact ⟨l, v, h1, h2, h3⟩
theorem fits_of {ts : List TypeId} {ds : List (DataW H)} (h : (DataW.weightsEach Tryz.prog ts ds).all (· ≤ reachBytes) = true) {j : Nat} {t : TypeId} {d : DataW H} (ht : ts[j]? = some t) (hd : ds[j]? = some d) : Fits t d := fun k hk => by
  have := List.all_eq_true.1 h _ (DataW.weights_mem_each ht hd k hk)
  simpa using this
set_option maxRecDepth 20000 in
theorem arg47 {b0 : Nat} {v : Value} {d : DataW H} {p : List MemPlace} (hok : Value.okWide Tryz.prog W .any b0 23 v) (h : DataW.Trod enc Tryz.prog W 0 (fun _ => true) true 23 v d p) (hf : Fits 23 d) :
    ∃ c : Cm, Rep W (allOf W) noHd (.pv (comp c)) v ∧ ∀ l ∈ c, ∀ e ∈ l, Ent.small e := by
  obtain ⟨n, hn⟩ := h
  obtain ⟨c, u, h1, hg, h2, _⟩ := reads_sliceG (e := 80) (sz := 1) Tryz.underlying23 cells72 (by decide) (fun l : List Ent => [slot l]) (fun l => ∀ e ∈ l, Ent.small e) (Fits 80) n (fun m _ cs x hx hfx => by
    obtain ⟨l, v, rfl, hs, hr⟩ := reads72 m cs x hx hfx
    refine ⟨l, hs, rfl, fun j c v h3 h4 => ?_⟩
    match j, h3, h4 with
    | 0, h3, h4 => simp at h3 h4; subst h3 h4; exact hr) _ _ hn (hoe_of Tryz.underlying23 hf)
  have hv : v = u := by
    obtain ⟨A, k, c, rfl⟩ := okWide_slice Tryz.underlying23 hok
    simpa [Value.cells] using h1
  subst hv
  exact ⟨c, .pv _ _ h2, hg⟩
end
end Go.Proofs.D
/-
  NODES, as the answer's reader reads them: where it is not bad, as the program's does.
-/
set_option linter.unusedVariables false
set_option linter.unusedSimpArgs false
namespace Go.Proofs.D
open Go Go.Abs
def quotedR (st : Rs) : Bs × Rs :=
  if (wantB 34 st).2 = true then ([], wantB 34 (wantB 34 st)) else match quotedGo (wantB 34 st).1 [] with
    | some (s, r) => (s, (r, false))
    | none => ([], ([], true))
/-- Are two readings one, or both bad? -/
def Alike {α : Type} (a b : α × Rs) : Prop := a.2.2 = b.2.2 ∧ (a.2.2 = false → a = b)
theorem alike_refl {α : Type} (a : α × Rs) : Alike a a := ⟨rfl, fun _ => rfl⟩
theorem want_bad (c : UInt8) (st : Rs) (h : st.2 = true) : (wantB c st).2 = true := by simp [wantB, h]
theorem quoted_alike (st : Rs) : Alike (quotedR st) (quotedB st) := by
  unfold quotedR quotedB
  cases hb : (wantB 34 st).2 with
  | true =>
    simp only [if_true]
    have := want_bad 34 _ hb
    exact ⟨this, fun h => by rw [this] at h; cases h⟩
  | false =>
    simp only [Bool.false_eq_true, if_false]
    cases quotedGo (wantB 34 st).1 [] with
    | none => exact ⟨rfl, fun h => nomatch h⟩
    | some r => exact alike_refl _
theorem quotedR_bad (st : Rs) (h : st.2 = true) : (quotedR st).2.2 = true := by
  unfold quotedR
  rw [want_bad 34 st h]
  simp only [if_true]
  exact want_bad 34 _ (want_bad 34 st h)
theorem quotedR_len (st : Rs) : (quotedR st).1.length + (quotedR st).2.1.length ≤ st.1.length := by
  obtain ⟨h1, _⟩ := want_le 34 st
  obtain ⟨h2, _⟩ := want_le 34 (wantB 34 st)
  unfold quotedR
  split
  · simp; omega
  · cases hq : quotedGo (wantB 34 st).1 [] with
    | none => simp
    | some r =>
      have := quotedGo_le _ _ _ hq
      simp at this ⊢
      omega
def textR (st : Rs) : N × Rs :=
  if (takesB 60 (quotedR st).2.1).1 = true then
    (.mk textK (bytesOf (quotedR st).1) ((marksGo (takesB 60 (quotedR st).2.1).2).1.map bytesOf) [] [], wantB 62 ((marksGo (takesB 60 (quotedR st).2.1).2).2, (quotedR st).2.2))
  else (.mk textK (bytesOf (quotedR st).1) [] [] [], (quotedR st).2)
theorem want_flag (c : UInt8) (l : Bs) (b : Bool) : (wantB c (l, b)).2 = (!(takesB c l).1 || b) := rfl
theorem text_alike (st : Rs) : Alike (textR st) (textB st) := by
  obtain ⟨h1, h2⟩ := quoted_alike st
  cases hb : (quotedR st).2.2 with
  | false =>
    have e := h2 hb
    have : textR st = textB st := by unfold textR textB; rw [e]
    rw [this]
    exact alike_refl _
  | true =>
    have h3 : (textR st).2.2 = true := by
      unfold textR
      split
      · simp [want_flag, hb]
      · exact hb
    have h4 : (textB st).2.2 = true := by
      rw [hb] at h1
      unfold textB
      split
      · simp [want_flag, ← h1]
      · exact h1.symm
    exact ⟨h3.trans h4.symm, fun h => by rw [h3] at h; cases h⟩
def attrR1 (l : Bs) : (Bs × Bs) × Rs := (((nameB l).1, (quotedR (wantB 61 ((nameB l).2, false))).1), (quotedR (wantB 61 ((nameB l).2, false))).2)
theorem attrR1_len (l : Bs) : (attrR1 l).1.1.length + (attrR1 l).1.2.length + (attrR1 l).2.1.length ≤ l.length := by
  have h1 := name_le l
  have h2 := (want_le 61 ((nameB l).2, false)).1
  have h3 := quotedR_len (wantB 61 ((nameB l).2, false))
  simp only [attrR1] at *
  omega
theorem attr_alike (l : Bs) : Alike (attrR1 l) (attrB1 l) := by
  obtain ⟨h1, h2⟩ := quoted_alike (wantB 61 ((nameB l).2, false))
  refine ⟨h1, fun h => ?_⟩
  have := h2 h
  simp only [attrR1, attrB1, this]
/-- Attributes, the first one behind a sign. -/
def attrsR (c : UInt8) (st : Rs) : List (Bs × Bs) × Rs :=
  if h : (takesB c st.1).1 = true ∧ st.2 = false then ((attrR1 (takesB c st.1).2).1 :: (attrsR 32 (attrR1 (takesB c st.1).2).2).1, (attrsR 32 (attrR1 (takesB c st.1).2).2).2) else ([], st)
termination_by st.1.length
decreasing_by all_goals (have h1 := (takes_le c st.1).2 h.1; have h2 := attrR1_len (takesB c st.1).2; omega)
theorem attrsR_bad (c : UInt8) (st : Rs) (h : st.2 = true) : attrsR c st = ([], st) := by
  rw [attrsR, dif_neg (by rw [h]; simp)]
/-- Behind the first sign, the program's reader goes on alike. -/
theorem attrsGo_alike : ∀ (n : Nat) (l : Bs), l.length ≤ n → Alike ((attrR1 l).1 :: (attrsR 32 (attrR1 l).2).1, (attrsR 32 (attrR1 l).2).2) (attrsGo (l, false))
  | n, l, hn => by
    obtain ⟨h1, h2⟩ := attr_alike l
    have hl := attrR1_len l
    rw [attrsGo]
    simp only [Bool.false_eq_true, if_false]
    cases hb : (attrR1 l).2.2 with
    | true =>
      rw [attrsR_bad 32 _ hb]
      rw [hb] at h1
      have key : (if h : (takesB 32 (attrB1 l).2.1).1 = true then ((attrB1 l).1 :: (attrsGo ((takesB 32 (attrB1 l).2.1).2, (attrB1 l).2.2)).1, (attrsGo ((takesB 32 (attrB1 l).2.1).2, (attrB1 l).2.2)).2)
          else ([(attrB1 l).1], ((takesB 32 (attrB1 l).2.1).2, (attrB1 l).2.2))).2.2 = true := by
        split
        · rw [attrsGo]
          simp [← h1]
        · exact h1.symm
      exact ⟨hb.trans key.symm, fun h => by rw [hb] at h; cases h⟩
    | false =>
      have e := h2 hb
      rw [attrsR]
      obtain ⟨⟨⟨nm, v⟩, ⟨l2, b2⟩⟩, hX⟩ : ∃ a, attrB1 l = a := ⟨_, rfl⟩
      rw [hX] at e ⊢
      rw [e] at hb hl ⊢
      simp only at hb
      subst hb
      simp only [and_true]
      by_cases ht : (takesB 32 l2).1 = true
      · have hlt := (takes_le 32 l2).2 ht
        rw [dif_pos ht, dif_pos ht]
        have hl2 : nm.length + v.length + l2.length ≤ l.length := hl
        obtain ⟨i1, i2⟩ := attrsGo_alike (n - 1) (takesB 32 l2).2 (by omega)
        exact ⟨i1, fun h => by have := i2 h; rw [← this]⟩
      · rw [dif_neg ht, dif_neg ht]
        have : (takesB 32 l2).2 = l2 := by
          cases l2 with
          | nil => rfl
          | cons x t =>
            simp only [takesB] at ht ⊢
            split at ht
            · simp at ht
            · rename_i hx; rw [if_neg hx]
        rw [this]
        exact alike_refl _
termination_by n l => l.length
decreasing_by omega
def attrsF (st : Rs) : List (Bs × Bs) × Rs := if (takesB 40 st.1).1 = true then ((attrsR 40 st).1, wantB 41 (attrsR 40 st).2) else ([], st)
theorem attrs_alike (l : Bs) : Alike (attrsF (l, false)) (attrsB (l, false)) := by
  unfold attrsF attrsB
  by_cases ht : (takesB 40 l).1 = true
  · simp only [ht, if_true]
    rw [attrsR, dif_pos ⟨ht, rfl⟩]
    obtain ⟨h1, h2⟩ := attrsGo_alike _ (takesB 40 l).2 (Nat.le_refl _)
    simp only at h1 h2 ⊢
    generalize attrsGo ((takesB 40 l).2, false) = a at h1 h2
    generalize attrsR 32 (attrR1 (takesB 40 l).2).2 = b at h1 h2
    cases hb : b.2.2 with
    | false =>
      have := h2 hb
      rw [← this]
      exact alike_refl _
    | true =>
      have k1 := want_bad 41 b.2 hb
      have k2 := want_bad 41 a.2 (by rw [← h1]; exact hb)
      exact ⟨k1.trans k2.symm, fun h => by rw [k1] at h; cases h⟩
  · simp only [ht, if_false, Bool.false_eq_true]
    have : (takesB 40 l).2 = l := by
      cases l with
      | nil => rfl
      | cons x t =>
        simp only [takesB] at ht ⊢
        split at ht
        · simp at ht
        · rename_i hx; rw [if_neg hx]
    rw [this]
    exact alike_refl _
def nodeR : Nat → Rs → N × Rs
  | 0, st => (.mk ⟨#[]⟩ ⟨#[]⟩ [] [] [], (st.1, true))
  | k + 1, st => if quoteNext st.1 = true then textR st else
      (.mk (bytesOf (nameB st.1).1) ⟨#[]⟩ [] ((attrsF ((nameB st.1).2, st.2)).1.map pairB) (kidsF (nodeR k) ((wantB 91 (attrsF ((nameB st.1).2, st.2)).2).1.length + 1) (wantB 91 (attrsF ((nameB st.1).2, st.2)).2)).1,
        wantB 93 (kidsF (nodeR k) ((wantB 91 (attrsF ((nameB st.1).2, st.2)).2).1.length + 1) (wantB 91 (attrsF ((nameB st.1).2, st.2)).2)).2)
theorem kids_bad (f : Rs → N × Rs) (j : Nat) (st : Rs) (h : st.2 = true) : kidsF f j st = ([], st) := by
  cases j with
  | zero => rfl
  | succ j => simp [kidsF, stopK, h]
theorem kids_alike {f g : Rs → N × Rs} {m : Nat} (hfg : ∀ l : Bs, l.length < m → Alike (f (l, false)) (g (l, false))) (hg : NodeLe g m) (hw : ∀ l : Bs, l.length < m → (g (l, false)).2.2 = false → (g (l, false)).2.1.length < l.length) : ∀ (j : Nat) (st : Rs), st.1.length < m → Alike (kidsF f j st) (kidsF g j st)
  | 0, st, _ => alike_refl _
  | j + 1, st, hm => by
    simp only [kidsF]
    cases hs : stopK st with
    | true => simp only [if_true]; exact alike_refl _
    | false =>
      simp only [Bool.false_eq_true, if_false]
      obtain ⟨l, b⟩ := st
      have hb : b = false := by simp only [stopK, Bool.or_eq_false_iff] at hs; exact hs.1
      subst hb
      obtain ⟨h1, h2⟩ := hfg l hm
      cases hfb : (f (l, false)).2.2 with
      | true =>
        rw [kids_bad f j _ hfb, kids_bad g j _ (by rw [← h1]; exact hfb)]
        exact ⟨h1, fun h => by rw [hfb] at h; cases h⟩
      | false =>
        have e := h2 hfb
        rw [e]
        have hlt := hw l hm (by rw [← h1]; exact hfb)
        simp only at hm
        obtain ⟨i1, i2⟩ := kids_alike hfg hg hw j (g (l, false)).2 (by omega)
        exact ⟨i1, fun h => by have := i2 h; rw [this]⟩
theorem node_short (k : Nat) (l : Bs) (h : l.length < k) (hb : (nodeF k (l, false)).2.2 = false) : (nodeF k (l, false)).2.1.length < l.length := by
  have h1 := (node_le k l h).2 hb
  have := wt_pos (nodeF k (l, false)).1
  omega
theorem node_alike : ∀ (k : Nat) (l : Bs), l.length < k → Alike (nodeR k (l, false)) (nodeF k (l, false))
  | 0, l, h => by omega
  | k + 1, l, h => by
    simp only [nodeR, nodeF]
    by_cases hq : quoteNext l = true
    · simp only [hq, if_true]
      exact text_alike _
    · simp only [hq, if_false, Bool.false_eq_true]
      obtain ⟨h1, h2⟩ := attrs_alike (nameB l).2
      have hn := name_le l
      obtain ⟨h6, h7⟩ := attrsB_le ((nameB l).2, false)
      generalize attrsF ((nameB l).2, false) = a at h1 h2
      generalize attrsB ((nameB l).2, false) = b at h1 h2 h6 h7
      cases hb : a.2.2 with
      | true =>
        have k1 := want_bad 91 a.2 hb
        have k2 := want_bad 91 b.2 (by rw [← h1]; exact hb)
        rw [kids_bad _ _ _ k1, kids_bad _ _ _ k2]
        have k3 := want_bad 93 _ k1
        have k4 := want_bad 93 _ k2
        exact ⟨k3.trans k4.symm, fun h => by rw [k3] at h; cases h⟩
      | false =>
        have e := h2 hb
        subst e
        obtain ⟨h4, h5⟩ := want_le 91 a.2
        cases hwb : (wantB 91 a.2).2 with
        | true =>
          rw [kids_bad _ _ _ hwb, kids_bad _ _ _ hwb]
          exact alike_refl _
        | false =>
          have hlen := (h5 hwb).2
          simp only at h6
          obtain ⟨i1, i2⟩ := kids_alike (f := nodeR k) (g := nodeF k) (m := k) (fun l hl => node_alike k l hl) (node_le k) (fun l hl => node_short k l hl) ((wantB 91 a.2).1.length + 1) (wantB 91 a.2) (by omega)
          generalize kidsF (nodeR k) ((wantB 91 a.2).1.length + 1) (wantB 91 a.2) = u at i1 i2
          generalize kidsF (nodeF k) ((wantB 91 a.2).1.length + 1) (wantB 91 a.2) = v at i1 i2
          cases hu : u.2.2 with
          | true =>
            have k3 := want_bad 93 u.2 hu
            have k4 := want_bad 93 v.2 (by rw [← i1]; exact hu)
            exact ⟨k3.trans k4.symm, fun h => by rw [k3] at h; cases h⟩
          | false =>
            have := i2 hu
            subst this
            exact alike_refl _
/-- What the answer reads of a whole text. -/
def readR (s : Bs) : N × Rs := nodeR (s.length + 1) (s, false)
theorem read_alike (s : Bs) : Alike (readR s) (readN s) := node_alike _ s (Nat.lt_succ_self _)
end Go.Proofs.D
