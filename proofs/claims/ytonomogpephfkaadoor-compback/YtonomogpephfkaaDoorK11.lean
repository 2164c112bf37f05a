/-
  COMPLEMENTS: how one is written.
-/
import Derived.Test.YtonomogpephfkaaDoorK10
set_option linter.unusedVariables false
set_option linter.unusedSimpArgs false
set_option linter.unusedSimpArgs false
namespace Go.Proofs.D
open Go Go.Abs Go.RowKit
attribute [local simp] VC stepV stepTop stepReg stepOp stMove stPick stBin stUn stConv stBox stAlloc stLoad stStore stFieldAddr stField stExtract stNilCheck stMakeFunc stIndexAddr stIndex stLen
  stBuild placesOf fillA stBuildSlice sliceCells repL chunks allPV toPV drawOk drawOk.go mayMakeO mayMake1 disjoint pairOk Oper.apart Oper.looksAt Op.operands Call.operands Region.binds stAppend appBase appTail unName stSlice bndA
  LS.ev LS.get LS.blk LS.put LS.app LS.upd lkS lkH setS setH Nm.eqb guardOf nexts okPair dstOk AV.cellsOf takeAt putAt lkT sliceE fieldT intK isStrT isBoolT abin newOk LS.freshB LS.freshB.go LS.freshB.goH notIn AV.ments AV.ments.mentsL Blk.ments makes upsMents LS.start startL exitTo T T3 outs callSideO callSideD upsR backO freshAll argB onlyIO List.map List.append List.nil_append List.cons_append Nat.blt
  conv convS convH srcs srcOf blkOk leA leA.leL leB leP laid laidM isArg subH retP resAV resL res1 AV.frz AV.frz.frzL evL AV.ren AV.ren.renL Blk.ren renBs blksOf allSome nodupB onlyArgs blksMents callUps keyed inName inName.go backName callSide
theorem entw_len (e : Ent) : 1 + e.w.length ≤ 6 * e.wt := by
  unfold Ent.w Ent.wt
  have h1 := quote_len e.value.data.toList
  rw [bsz] at h1
  have h2 := go_len4 e.rest
  split
  · split <;> simp <;> omega
  · simp; omega
theorem line_len (l : List Ent) : (lineB l).length ≤ 6 * slotWt l := by
  have h := sepBy_len 32 (l.map Ent.w)
  have h2 : ((l.map Ent.w).map fun x => 1 + x.length).sum ≤ 6 * (l.map Ent.wt).sum := by
    induction l with
    | nil => simp
    | cons e l ih =>
      have := entw_len e
      have ih := ih (sepBy_len 32 (l.map Ent.w))
      simp only [List.map_cons, List.sum_cons]
      omega
  simp only [lineB, List.length_append, List.length_cons, List.length_nil, slotWt]
  omega
theorem comp_len : ∀ c : Cm, (compB c).length ≤ 6 * compWt c
  | [] => by simp [compB]
  | l :: c => by
    have h1 := line_len l
    have h2 := comp_len c
    simp only [compB, compWt, List.map_cons, List.sum_cons, List.length_append] at h2 ⊢
    omega
theorem compB_append : ∀ a b : Cm, compB (a ++ b) = compB a ++ compB b
  | [], b => rfl
  | l :: a, b => by simp only [List.cons_append, compB, compB_append a b, List.append_assoc]
theorem compB_take {c : Cm} {i : Nat} (h : i < c.length) : compB (c.take (i + 1)) = compB (c.take i) ++ lineB c[i] := by
  rw [List.take_add_one, List.getElem?_eq_getElem h, compB_append]
  simp [compB]
theorem compWt_append (a b : Cm) : compWt (a ++ b) = compWt a + compWt b := by
  simp [compWt]
theorem slot_mem {c : Cm} {l : List Ent} (h : l ∈ c) : slotWt l ≤ compWt c := by
  obtain ⟨a, b, rfl⟩ := List.append_of_mem h
  rw [compWt_append]
  simp only [compWt, List.map_cons, List.sum_cons]
  omega
theorem ent_mem {l : List Ent} {e : Ent} (h : e ∈ l) : e.wt + 1 ≤ slotWt l := by
  obtain ⟨a, b, rfl⟩ := List.append_of_mem h
  simp only [slotWt, List.map_append, List.map_cons, List.sum_append, List.sum_cons]
  omega
theorem comp_lens (c : Cm) : c.length ≤ compWt c := by
  induction c with
  | nil => simp
  | cons l c ih => simp only [compWt, List.map_cons, List.sum_cons, List.length_cons, slotWt] at ih ⊢; omega
theorem slot_lens (l : List Ent) : l.length ≤ slotWt l := by
  have : l.length ≤ (l.map Ent.wt).sum := by
    induction l with
    | nil => simp
    | cons e l ih => simp only [List.map_cons, List.sum_cons, List.length_cons, Ent.wt] at ih ⊢; omega
  unfold slotWt
  omega
def printC (c : Cm) : ByteArray := if okC c = true then bs (compB c) else ⟨#[]⟩
def printE (c : Cm) : Int := if okC c = true then 0 else 2
/-- A builder that is used, or not yet. -/
def adOf (r : Nm) : Bool → AV
  | false => nilPtr
  | true => .ptr r 0
theorem adOf_or (b : Bool) : adOf (.arg 0) b = nilPtr ∨ adOf (.arg 0) b = ptr0 := by cases b <;> simp [adOf]
set_option maxRecDepth 20000 in
set_option maxHeartbeats 4000000 in
theorem f23 (c : Cm) (hw : compWt c ≤ 90000) : Fun Tryd.prog tabs 23 [.pv (comp c)] [] (.tup [vS (printC c), vI (printE c)]) [] := by
  have hcl := comp_lens c
  refine fun_of (T := T3) (n := 42) (rs := [.tmp 2, .tmp 3]) Tryd.func23 (by kernel_rfl) rfl rfl rfl tok3 mixed (by simp) fun C hC => ?_
  refine hC.vc [] 60 ?_
  simp
  refine go_loop (ι := {x : Nat × Bool // x.1 ≤ c.length ∧ okC c = okC (c.drop x.1) ∧ ∀ l ∈ c.take x.1, ∀ e ∈ l, Ent.ok e = true}) (fun x => ⟨[(4, .ptr (.loc 4) 0), (12, .pv (comp c)), (13, vI c.length), (14, vI x.1.1)], [(.loc 4, some (bldB (adOf (.loc 4) x.1.2) (.own (.can 0)))), (.can 0, some (bytesB (compB (c.take x.1.1))))]⟩)
    (fun x => c.length - x.1.1) ⟨(0, false), by simp⟩ [(.can 0, .nil)] (by simp [compB, adOf]) fun x ih => ?_
  obtain ⟨⟨i, ad⟩, hi, hn, hok⟩ := x
  simp only at hi hn hok ih
  refine hC.vc [] 60 ?_
  rcases Bool.eq_false_or_eq_true ad with hA | hA
  all_goals
    by_cases hlt : i < c.length
    · have hw1 := wr64 ((i : Int) + 1) (by omega)
      have hsm := slot_mem (c := c) (l := c[i]) (by simp)
      have hsl := slot_lens c[i]
      simp [hlt, hA, adOf]
      refine go_loop (ι := {k : Nat // k ≤ c[i].length ∧ c[i].all Ent.ok = (c[i].drop k).all Ent.ok ∧ ∀ e ∈ c[i].take k, Ent.ok e = true}) (fun x => ⟨[(4, .ptr (.loc 4) 0), (12, .pv (comp c)), (13, vI c.length), (14, vI i), (18, .pv (slot c[i])), (19, vI c[i].length), (20, vI x.1), (7, .own (.can 1))],
          [(.loc 4, some (bldB (adOf (.loc 4) ad) (.own (.can 0)))), (.can 0, some (bytesB (compB (c.take i)))), (.can 1, some (.row 9 1 ((c[i].map fun e => [PV.val (.string e.txt)]).take x.1)))]⟩)
        (fun x => c[i].length - x.1) ⟨0, by simp⟩ [(.can 1, .nil)] (by simp [hA, adOf]) fun x ih2 => ?_
      obtain ⟨k, hk, hn2, hok2⟩ := x
      simp only at hk hn2 hok2 ih2
      refine hC.vc [] 60 ?_
      by_cases hlk : k < c[i].length
      · have hw2 := wr64 ((k : Int) + 1) (by omega)
        have hem := ent_mem (l := c[i]) (e := c[i][k]) (by simp)
        rw [List.drop_eq_getElem_cons hlk, List.all_cons] at hn2
        simp [hlk, hA, adOf, Ent.pv_eq]
        refine hC.call [] (f37 c[i][k] (by omega)) (by simp [Ent.av, Ent.cells]) ?_
        cases hek : c[i][k].ok with
        | false =>
          rw [hek, Bool.false_and] at hn2
          have : okC c = false := by
            rw [hn, List.drop_eq_getElem_cons hlt]
            simp only [okC, List.all_cons, hn2, Bool.false_and]
          refine hC.vc [] 60 ?_
          simp [printC, printE, this]
        | true =>
          rw [hek, Bool.true_and] at hn2
          have htk : (c[i].map fun e => [PV.val (.string e.txt)]).take (k + 1) = (c[i].map fun e => [PV.val (.string e.txt)]).take k ++ [[.val (.string c[i][k].txt)]] := by
            rw [List.take_add_one, List.getElem?_map, List.getElem?_eq_getElem hlk]; rfl
          refine hC.vc [] 60 ?_
          simp [hA, adOf]
          refine ⟨by omega, ?_⟩
          exact go_to [(.can 1, .nm (.loc 34))] (ih2 ⟨k + 1, hlk, hn2, fun e he => by
            rw [List.take_add_one, List.getElem?_eq_getElem hlk] at he
            rcases List.mem_append.1 he with h | h
            · exact hok2 e h
            · simp at h; rw [h]; exact hek⟩ (by simp; omega)) (by simp [hw2, htk, hA, adOf])
      · have htk : c[i].take k = c[i] := List.take_of_length_le (by omega)
        rw [htk] at hok2
        have hall : c[i].all Ent.ok = true := List.all_eq_true.2 hok2
        have hmap : (c[i].map fun e => [PV.val (.string e.txt)]).take k = (c[i].map fun e => bs e.w).map fun s => [PV.val (.string s)] := by
          rw [List.take_of_length_le (by simp; omega), List.map_map]
          exact List.map_congr_left fun e he => by simp [txt_ok (hok2 e he)]
        rw [hmap]
        have hj := joinB_bs (c[i].map fun e => bs e.w) 32
        have hj2 : ((c[i].map fun e => bs e.w).map (·.data.toList)) = c[i].map Ent.w := by rw [List.map_map]; exact List.map_congr_left fun p _ => bs_list _
        rw [hj2] at hj
        have hll := line_len c[i]
        have hlen : (sepBy 32 (c[i].map Ent.w)).length + 1 = (lineB c[i]).length := by simp [lineB]
        have hcw := comp_len (c.take i)
        have hcw2 : compWt (c.take i) + slotWt c[i] ≤ compWt c := by
          have h1 := compWt_append (c.take (i + 1)) (c.drop (i + 1))
          rw [List.take_append_drop, List.take_add_one, List.getElem?_eq_getElem hlt, compWt_append] at h1
          simp only [Option.toList_some] at h1
          have : compWt [c[i]] = slotWt c[i] := by simp [compWt]
          omega
        simp [hlk, hA, adOf]
        refine hC.call [.can 1] (fun_ownRow (a := []) (b := [vS ⟨#[32]⟩]) (e := 9) (by simp [AV.ments]) rfl (f39 tabs (c[i].map fun e => bs e.w) ⟨#[32]⟩ (by simp; omega) (by rw [hj, bs_size]; omega))) (by simp [hA, adOf]) ?_
        rw [hj]
        have hfin : bs (sepBy 32 (c[i].map Ent.w)) ++ ⟨#[10]⟩ = bs (lineB c[i]) := bsExt (by simp [lineB, bs, ByteArray.data_append])
        have g0 : (⟨#[10]⟩ : ByteArray).size = 1 := rfl
        refine hC.vc [] 2 ?_
        simp [hA, adOf, bs_size, g0, hfin]
        refine ⟨by omega, ?_⟩
        refine hC.callO [.loc 4, .can 0] [.can 2] (f38 tabs (adOf (.arg 0) ad) (compB (c.take i)) (bs (lineB c[i])) (adOf_or ad) (by rw [bs_size]; omega)) (by simp [hA, adOf]) ?_
        rw [bs_list, ← compB_take hlt]
        refine hC.vc [] 60 ?_
        simp
        exact go_to [(.can 0, .nm (.can 2))] (ih ⟨(i + 1, true), hlt, by
          rw [hn, List.drop_eq_getElem_cons hlt]
          simp only [okC, List.all_cons, hall, Bool.true_and], fun l hl e he => by
          rw [List.take_add_one, List.getElem?_eq_getElem hlt] at hl
          rcases List.mem_append.1 hl with h | h
          · exact hok l h e he
          · simp at h; rw [h] at he; exact hok2 e he⟩ (by simp; omega)) (by simp [hw1, adOf])
    · have htk : c.take i = c := List.take_of_length_le (by omega)
      rw [List.drop_eq_nil_of_le (by omega)] at hn
      have hk : okC c = true := by rw [hn]; rfl
      have h1 : printC c = ⟨(compB c).toArray⟩ := by rw [printC, if_pos hk]; rfl
      have h2 : printE c = 0 := by rw [printE, if_pos hk]
      rw [h1, h2] at hC
      simp [hlt, hA, adOf]
      rw [htk]
      refine hC.call [.loc 4, .can 0] (f40 tabs (adOf (.arg 0) ad) (compB c) (adOf_or ad)) (by simp [hA, adOf]) ?_
      refine hC.vc [] 60 ?_
      simp
end Go.Proofs.D
