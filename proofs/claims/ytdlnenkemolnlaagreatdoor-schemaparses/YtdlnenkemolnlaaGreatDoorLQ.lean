/-
  THE SECOND ANSWER: the expression of a text.
-/
import Derived.Test.YtdlnenkemolnlaaGreatDoorD36
import Derived.Test.YtdlnenkemolnlaaGreatDoorL6
set_option linter.unusedVariables false
set_option linter.unusedSimpArgs false
namespace Go.Proofs.D
open Go Go.Abs
attribute [local simp] VC VCS stepVS stepTopS firstId memN bigB unmark markT mkOff calmP keepT boundB stepV stepTop stepReg stepOp stMove stPick stBin stUn stConv stBox stAlloc stLoad stStore stFieldAddr stField stExtract stNilCheck stMakeFunc stIndexAddr stIndex stLen
  stBuild placesOf fillA stBuildSlice sliceCells repL chunks allPV toPV drawOk drawOk.go mayMakeO mayMake1 disjoint pairOk Oper.apart Oper.looksAt Op.operands Call.operands Region.binds stAppend appBase appTail unName stSlice bndA
  LS.ev LS.get LS.blk LS.put LS.app LS.upd lkS lkH setS setH Nm.eqb guardOf nexts okPair dstOk AV.cellsOf takeAt putAt lkT sliceE fieldT intK isStrT isBoolT abin newOk LS.freshB LS.freshB.go LS.freshB.goH notIn AV.ments AV.ments.mentsL Blk.ments makes upsMents LS.start startL exitTo T Nat.blt
  conv convS convH srcs srcOf blkOk leA leA.leL Go.Abs.leB leP laid laidM laidG isArg subH retP resAV resL res1 AV.frz AV.frz.frzL evL AV.ren AV.ren.renL Blk.ren renBs blksOf allSome nodupB onlyArgs blksMents callUps keyed inName inName.go backName callSide
abbrev cutL (sg : Int) (s : List UInt8) : List (List UInt8) := cutGo sg s 0 []
def lastI (s : List UInt8) : Int := ((s.getLast?.getD 0).toNat : Int)
def headI (s : List UInt8) : Int := ((s.head?.getD 0).toNat : Int)
def rdE : Nat → List UInt8 → E
  | 0, _ => E.none
  | n + 1, s => if s = [] then E.none else
    if 1 < (cutL 124 s).length then .mk 97 ⟨#[]⟩ (if (cutL 124 s).length < 30 then (cutL 124 s).map (rdE n) else [])
    else if 1 < (cutL 32 s).length then .mk 115 ⟨#[]⟩ (if (cutL 32 s).length < 30 then (cutL 32 s).map (rdE n) else [])
    else if lastI s = 42 ∨ lastI s = 43 ∨ lastI s = 63 then .mk (lastI s) ⟨#[]⟩ [rdE n s.dropLast]
    else if s = [40, 41] then .mk 115 ⟨#[]⟩ []
    else if headI s = 40 ∧ lastI s = 41 then rdE n s.tail.dropLast
    else .mk 110 (B s) []
/-- What is read of a text that is not cut. -/
def rdR (n : Nat) (s : List UInt8) : E :=
  if lastI s = 42 ∨ lastI s = 43 ∨ lastI s = 63 then .mk (lastI s) ⟨#[]⟩ [rdE n s.dropLast]
  else if s = [40, 41] then .mk 115 ⟨#[]⟩ []
  else if headI s = 40 ∧ lastI s = 41 then rdE n s.tail.dropLast
  else .mk 110 (B s) []
theorem cutGo_len (sg : Int) : ∀ (r : List UInt8) (o : Int) (cur : List UInt8), 1 ≤ (cutGo sg r o cur).length
  | [], o, cur => by simp [cutGo]
  | c :: r, o, cur => by
    simp only [cutGo]
    split
    · simp
    · exact cutGo_len sg r _ _
theorem cutGo_mem (sg : Int) : ∀ (r : List UInt8) (o : Int) (cur t : List UInt8), t ∈ cutGo sg r o cur → t.length ≤ r.length + cur.length
  | [], o, cur, t, h => by simp [cutGo] at h; subst h; simp
  | c :: r, o, cur, t, h => by
    simp only [cutGo] at h
    split at h
    · rcases List.mem_cons.1 h with rfl | h
      · simp
      · have := cutGo_mem sg r _ _ t h
        simp at this ⊢
        omega
    · have := cutGo_mem sg r _ _ t h
      simp at this ⊢
      omega
theorem lastI_eq (s : List UInt8) (h : s ≠ []) : byteAt (B s) ((s.length : Int) - 1) = lastI s := by
  rw [byteAt_eq]
  have : ((s.length : Int) - 1).toNat = s.length - 1 := by omega
  rw [this, B_list, lastI, List.getD_eq_getElem?_getD, List.getLast?_eq_getElem?]
theorem headI_eq (s : List UInt8) : byteAt (B s) 0 = headI s := by
  rw [byteAt_eq, B_list, headI, List.getD_eq_getElem?_getD]
  cases s <;> rfl
theorem ext_init (s : List UInt8) : (B s).extract 0 (s.length - 1) = B s.dropLast := by
  rw [slice_B, B_list, List.drop_zero, List.dropLast_eq_take]
theorem ext_mid (s : List UInt8) : (B s).extract 1 (s.length - 1) = B s.tail.dropLast := by
  rw [slice_B, B_list]
  cases s with
  | nil => rfl
  | cons c s =>
    rw [List.tail_cons, List.dropLast_eq_take, List.length_cons, Nat.add_sub_cancel]
    cases s <;> simp
set_option maxRecDepth 20000 in
set_option maxHeartbeats 2000000 in
theorem f29 (Gl : Granted) : ∀ (n : Nat) (s : List UInt8), n ≤ 1000 → s.length ≤ 1000 → Fun Tryz.prog Gl 146 [vS (B s), vI n] [] (rdE n s).av []
  | 0, s, hn, hs => by
    refine fun_of (T := T) (n := 99) (rs := [.cell 4 120]) Tryz.func146 (by kernel_rfl) rfl rfl rfl tok mixed (by simp) fun C hC => ?_
    refine hC.vc [] 60 ?_
    by_cases h : B s = ⟨#[]⟩
    · simp [h, rdE, E.av, E.cells, E.none, E.op, E.name, E.kids]
    · simp [h, rdE, E.av, E.cells, E.none, E.op, E.name, E.kids]
  | n + 1, s, hn, hs => by
    have IH : ∀ t : List UInt8, t.length ≤ s.length → Fun Tryz.prog Gl 146 [vS (B t), vI n] [] (rdE n t).av [] := fun t ht => f29 Gl n t (by omega) (by omega)
    refine fun_of (T := T) (n := 99) (rs := [.cell 4 120]) Tryz.func146 (by kernel_rfl) rfl rfl rfl tok mixed (by simp) fun C hC => ?_
    have hB : B s = ⟨#[]⟩ ↔ s = [] := ⟨fun h => by have := congrArg (fun x => x.data.toList) h; simpa using this, fun h => by subst h; rfl⟩
    by_cases h : s = []
    · refine hC.vc [] 60 ?_
      have h' := hB.2 h
      simp [h', rdE, h, E.av, E.cells, E.none, E.op, E.name, E.kids]
    · have h' : ¬ B s = ⟨#[]⟩ := fun x => h (hB.1 x)
      have hn0 : ¬ ((n : Int) + 1 = 0) := by omega
      have hr : rdE (n + 1) s = if 1 < (cutL 124 s).length then .mk 97 ⟨#[]⟩ (if (cutL 124 s).length < 30 then (cutL 124 s).map (rdE n) else []) else if 1 < (cutL 32 s).length then .mk 115 ⟨#[]⟩ (if (cutL 32 s).length < 30 then (cutL 32 s).map (rdE n) else []) else rdR n s := by
        rw [rdE, if_neg h]
        rfl
      generalize rdE (n + 1) s = R at hr hC
      refine hC.vc [] 20 ?_
      simp [h', hn0]
      refine hC.call [] (f55 Gl (B s) 124 (by rw [B_size]; omega)) (by simp) ?_
      refine hC.vc [] 6 ?_
      simp [h', hn0]
      have hcB : ∀ sg, cutB sg (B s) = (cutL sg s).map B := fun sg => by rw [cutB, B_list]
      rw [hcB]
      refine go_cut (ι := {x : Int × List (List UInt8) // (∀ t ∈ x.2, t.length ≤ s.length) ∧ R = if 1 < x.2.length then .mk x.1 ⟨#[]⟩ (if x.2.length < 30 then x.2.map (rdE n) else []) else rdR n s})
        (fun x => ⟨[(0, vS (B s)), (1, vI ((n : Int) + 1)), (4, .ptr (.loc 4) 0), (5, .pv (.ro 1 (rowS (x.1.2.map B)))), (6, .pv (.val (.int .u8 x.1.1)))], [(.loc 4, some (.box 120 [.pv (.val (.int .u8 0)), .pv (.val (.string ⟨#[]⟩)), .pv (.nilS 3)]))]⟩) (fun x => ?_) (fun tail => ?_)
      · obtain ⟨⟨op, l⟩, hl, hr⟩ := x
        dsimp only at hl hr
        by_cases h1 : 1 < l.length
        · rw [if_pos h1] at hr
          have h1i : 1 < (l.length : Int) := by omega
          have hwn : wr .i64 ((n : Int)) = n := wr64 _ (by omega)
          by_cases h30 : l.length < 30
          · rw [if_pos h30] at hr
            have h30i : (l.length : Int) < 30 := by omega
            refine hC.vc [] 60 ?_
            simp [h1i]
            refine go_loop (ι := {i : Nat // i ≤ l.length}) (fun x => ⟨[(0, vS (B s)), (1, vI ((n : Int) + 1)), (4, .ptr (.loc 4) 0), (5, .pv (.ro 1 (rowS (l.map B)))), (7, .ptr (.loc 7) 0), (8, vI x.1)],
                [(.loc 4, some (.box 120 [.pv (.val (.int .u8 0)), .pv (.val (.string ⟨#[]⟩)), .pv (.nilS 3)])), (.loc 7, some (.box 120 [.pv (.val (.int .u8 op)), .pv (.val (.string ⟨#[]⟩)), .own (.can 0)])), (.can 0, some (.row 120 3 (((l.take x.1).map (rdE n)).map E.pv)))]⟩)
              (fun x => l.length - x.1) ⟨0, Nat.zero_le _⟩ [(.can 0, .nil)] (by simp) fun x ih => ?_
            obtain ⟨i, hi⟩ := x
            simp only at hi ih
            have hw1 := wr64 ((i : Int) + 1) (by omega)
            by_cases hlt : i < l.length
            · refine hC.vc [] 60 ?_
              simp [hlt, h30i, hwn]
              refine hC.call [] (IH l[i] (hl _ (by simp))) (by simp [E.av, E.cells]) ?_
              have htk : (l.map (E.pv ∘ rdE n)).take (i + 1) = (l.map (E.pv ∘ rdE n)).take i ++ [[.val (.int .u8 (rdE n l[i]).op), .val (.string (rdE n l[i]).name), .ro 3 ((rdE n l[i]).kids.map E.pv)]] := by
                rw [List.take_add_one, List.getElem?_map, List.getElem?_eq_getElem hlt, Option.map_some, Function.comp_apply, E.pv_eq (rdE n l[i])]
                rfl
              refine hC.vc [] 60 ?_
              simp [E.av, E.cells]
              refine ⟨by omega, ?_⟩
              exact go_to [(.can 0, .nm (.loc 50))] (ih ⟨i + 1, hlt⟩ (by simp; omega)) (by simp [hw1, E.cells, htk])
            · refine hC.vc [] 60 ?_
              simp [hlt, h30i]
              have : (l.map (E.pv ∘ rdE n)).take i = l.map (E.pv ∘ rdE n) := List.take_of_length_le (by simp; omega)
              simp [this, hr, E.av, E.cells, E.op, E.name, E.kids]
          · rw [if_neg h30] at hr
            have h30i : ¬ (l.length : Int) < 30 := by omega
            refine hC.vc [] 60 ?_
            simp [h1i]
            refine go_loop (ι := Unit) (fun x => ⟨[(0, vS (B s)), (1, vI ((n : Int) + 1)), (4, .ptr (.loc 4) 0), (5, .pv (.ro 1 (rowS (l.map B)))), (7, .ptr (.loc 7) 0), (8, vI 0)],
                [(.loc 4, some (.box 120 [.pv (.val (.int .u8 0)), .pv (.val (.string ⟨#[]⟩)), .pv (.nilS 3)])), (.loc 7, some (.box 120 [.pv (.val (.int .u8 op)), .pv (.val (.string ⟨#[]⟩)), .pv (.nilS 3)]))]⟩)
              (fun x => 0) () [] (by simp) fun x ih => ?_
            have h0 : 0 < l.length := by omega
            refine hC.vc [] 60 ?_
            simp [h30i, h0, hr, E.av, E.cells, E.op, E.name, E.kids]
        · rw [if_neg h1] at hr
          have h1i : ¬ 1 < (l.length : Int) := by omega
          have hz := B_size s
          have hwl : wr .i64 ((s.length : Int) - 1) = (s.length : Int) - 1 := wr64 _ (by omega)
          have hwn : wr .i64 ((n : Int)) = n := wr64 _ (by omega)
          have htn : ((s.length : Int) - 1).toNat = s.length - 1 := by omega
          have hla := lastI_eq s h
          have hha := headI_eq s
          have hpos : 0 < s.length := List.length_pos_iff.2 h
          have hpos' : (s.length : Int) - 1 < s.length := by omega
          have hpos'' : (0 : Int) ≤ (s.length : Int) - 1 := by omega
          have hB2 : B s = ⟨#[40, 41]⟩ ↔ s = [40, 41] := ⟨fun h => by have := congrArg (fun x => x.data.toList) h; simpa using this, fun h => by subst h; rfl⟩
          have hrr : rdR n s = if lastI s = 42 ∨ lastI s = 43 ∨ lastI s = 63 then .mk (lastI s) ⟨#[]⟩ [rdE n s.dropLast] else if s = [40, 41] then .mk 115 ⟨#[]⟩ [] else if headI s = 40 ∧ lastI s = 41 then rdE n s.tail.dropLast else .mk 110 (B s) [] := rfl
          rw [hr] at hC
          by_cases c1 : lastI s = 42
          · rw [hrr, if_pos (.inl c1), c1] at hC
            refine hC.vc [] 60 ?_
            simp [h1i, hz, hwl, hla, hpos, hpos', hpos'', htn, hwn, ext_init, c1]
            refine ⟨by omega, ⟨by omega, by omega⟩, ?_⟩
            refine hC.call [] (IH s.dropLast (by simp)) (by simp [E.av, E.cells]) ?_
            refine hC.vc [] 60 ?_
            simp [E.av, E.cells, E.op, E.name, E.kids, E.pv_eq (rdE n s.dropLast)]
          · by_cases c2 : lastI s = 43
            · rw [hrr, if_pos (.inr (.inl c2)), c2] at hC
              refine hC.vc [] 60 ?_
              simp [h1i, hz, hwl, hla, hpos, hpos', hpos'', htn, hwn, ext_init, c1, c2]
              refine ⟨by omega, ⟨by omega, by omega⟩, ?_⟩
              refine hC.call [] (IH s.dropLast (by simp)) (by simp [E.av, E.cells]) ?_
              refine hC.vc [] 60 ?_
              simp [E.av, E.cells, E.op, E.name, E.kids, E.pv_eq (rdE n s.dropLast)]
            · by_cases c3 : lastI s = 63
              · rw [hrr, if_pos (.inr (.inr c3)), c3] at hC
                refine hC.vc [] 60 ?_
                simp [h1i, hz, hwl, hla, hpos, hpos', hpos'', htn, hwn, ext_init, c1, c2, c3]
                refine ⟨by omega, ⟨by omega, by omega⟩, ?_⟩
                refine hC.call [] (IH s.dropLast (by simp)) (by simp [E.av, E.cells]) ?_
                refine hC.vc [] 60 ?_
                simp [E.av, E.cells, E.op, E.name, E.kids, E.pv_eq (rdE n s.dropLast)]
              · rw [if_neg (by omega)] at hrr
                by_cases c4 : s = [40, 41]
                · rw [hrr, if_pos c4] at hC
                  have c4' : (B s = ⟨#[40, 41]⟩) = True := eq_true (hB2.2 c4)
                  refine hC.vc [] 60 ?_
                  simp [h1i, hz, hwl, hla, hpos, hpos', hpos'', htn, hwn, ext_init, c1, c2, c3, c4', E.av, E.cells, E.op, E.name, E.kids]
                  omega
                · rw [if_neg c4] at hrr
                  have c4' : ¬ B s = ⟨#[40, 41]⟩ := fun x => c4 (hB2.1 x)
                  by_cases c5 : headI s = 40
                  · by_cases c6 : lastI s = 41
                    · rw [hrr, if_pos ⟨c5, c6⟩] at hC
                      refine hC.vc [] 100 ?_
                      simp [h1i, hz, hwl, hla, hpos, hpos', hpos'', htn, hwn, ext_init, hha, c1, c2, c3, c4', c5, c6, ext_mid]
                      have h2l : 2 ≤ s.length := by
                        match s, h, c5, c6 with
                        | [c], _, c5, c6 => simp [headI] at c5; simp [lastI] at c6; omega
                        | _ :: _ :: _, _, _, _ => simp
                      refine ⟨by omega, ⟨by omega, by omega⟩, ?_⟩
                      refine hC.call [] (IH s.tail.dropLast (by simp; omega)) (by simp [E.av, E.cells]) ?_
                      refine hC.vc [] 60 ?_
                      simp [E.av, E.cells]
                    · rw [hrr, if_neg (fun x => c6 x.2)] at hC
                      refine hC.vc [] 100 ?_
                      simp [h1i, hz, hwl, hla, hpos, hpos', hpos'', htn, hwn, ext_init, hha, c1, c2, c3, c4', c5, c6, E.av, E.cells, E.op, E.name, E.kids]
                      omega
                  · rw [hrr, if_neg (fun x => c5 x.1)] at hC
                    refine hC.vc [] 100 ?_
                    simp [h1i, hz, hwl, hla, hpos, hpos', hpos'', htn, hwn, ext_init, hha, c1, c2, c3, c4', c5, E.av, E.cells, E.op, E.name, E.kids]
                    omega
      · have h1 : 1 ≤ (cutL 124 s).length := cutGo_len 124 s 0 []
        have hm := fun sg t ht => cutGo_mem sg s 0 [] t ht
        simp only [List.length_nil, Nat.add_zero] at hm
        by_cases h2 : ((cutL 124 s).length : Int) = 1
        · refine hC.vc [] 20 ?_
          simp [h2]
          refine hC.call [] (f55 Gl (B s) 32 (by rw [B_size]; omega)) (by simp) ?_
          refine hC.vc [] 5 ?_
          simp
          rw [hcB]
          have h3 : ¬ 1 < (cutL 124 s).length := by omega
          rw [if_neg h3] at hr
          exact go_to [] (tail ⟨(115, cutL 32 s), hm 32, hr⟩) (by simp)
        · refine hC.vc [] 8 ?_
          simp [h2]
          have h3 : 1 < (cutL 124 s).length := by omega
          rw [if_pos h3] at hr
          exact go_to [] (tail ⟨(97, cutL 124 s), hm 124, by dsimp only; rw [if_pos h3]; exact hr⟩) (by simp)
end Go.Proofs.D
/-
  THE SECOND ANSWER: an expression is read.
-/
set_option linter.unusedVariables false
set_option linter.unusedSimpArgs false
namespace Go.Proofs.D
open Go Go.Abs
attribute [local simp] VC VCS stepVS stepTopS firstId memN bigB unmark markT mkOff calmP keepT boundB stepV stepTop stepReg stepOp stMove stPick stBin stUn stConv stBox stAlloc stLoad stStore stFieldAddr stField stExtract stNilCheck stMakeFunc stIndexAddr stIndex stLen
  stBuild placesOf fillA stBuildSlice sliceCells repL chunks allPV toPV drawOk drawOk.go mayMakeO mayMake1 disjoint pairOk Oper.apart Oper.looksAt Op.operands Call.operands Region.binds stAppend appBase appTail unName stSlice bndA
  LS.ev LS.get LS.blk LS.put LS.app LS.upd lkS lkH setS setH Nm.eqb guardOf nexts okPair dstOk AV.cellsOf takeAt putAt lkT sliceE fieldT intK isStrT isBoolT abin newOk LS.freshB LS.freshB.go LS.freshB.goH notIn AV.ments AV.ments.mentsL Blk.ments makes upsMents LS.start startL exitTo T Nat.blt
  conv convS convH srcs srcOf blkOk leA leA.leL Go.Abs.leB leP laid laidM laidG isArg subH retP resAV resL res1 AV.frz AV.frz.frzL evL AV.ren AV.ren.renL Blk.ren renBs blksOf allSome nodupB onlyArgs blksMents callUps keyed inName inName.go backName callSide
theorem cutGo_sum (sg : Int) : ∀ (r : List UInt8) (o : Int) (cur : List UInt8), ((cutGo sg r o cur).map fun t => t.length + 1).sum = r.length + cur.length + 1
  | [], o, cur => by simp [cutGo]
  | c :: r, o, cur => by
    simp only [cutGo]
    split
    · simp only [List.map_cons, List.sum_cons, cutGo_sum sg r _ []]
      simp
      omega
    · rw [cutGo_sum sg r _ _]
      simp
      omega
theorem sum_double (l : List (List UInt8)) : (l.map fun t => 2 * t.length + 1).sum + l.length = 2 * (l.map fun t => t.length + 1).sum := by
  induction l with
  | nil => rfl
  | cons x l ih => simp at ih ⊢; omega
/-- What is read is no more than the text. -/
theorem rdE_made : ∀ (n : Nat) (s : List UInt8), s.length ≤ 1000 → (rdE n s).small ∧ (rdE n s).cnt ≤ 2 * s.length + 1
  | 0, s, hs => ⟨E.small_mk (by decide) (by simp), by simp [rdE, none_cnt]⟩
  | n + 1, s, hs => by
    have hcut : ∀ (op : Int) (sg : Int), 1 < (cutL sg s).length → (E.mk op ⟨#[]⟩ (if (cutL sg s).length < 30 then (cutL sg s).map (rdE n) else [])).small ∧ (E.mk op ⟨#[]⟩ (if (cutL sg s).length < 30 then (cutL sg s).map (rdE n) else [])).cnt ≤ 2 * s.length + 1 := by
      intro op sg h
      split
      · constructor
        · refine E.small_mk (by decide) fun k hk => ?_
          obtain ⟨t, ht, rfl⟩ := List.mem_map.1 hk
          have := cutGo_mem sg s 0 [] t ht
          exact (rdE_made n t (by simp at this; omega)).1
        · rw [cnt_eq]
          have h1 : ((E.mk op ⟨#[]⟩ ((cutL sg s).map (rdE n))).kids.map E.cnt).sum ≤ ((cutL sg s).map fun t => 2 * t.length + 1).sum := by
            show (((cutL sg s).map (rdE n)).map E.cnt).sum ≤ _
            rw [List.map_map]
            have : ∀ l : List (List UInt8), (∀ t ∈ l, t ∈ cutL sg s) → (l.map (E.cnt ∘ rdE n)).sum ≤ (l.map fun t => 2 * t.length + 1).sum := by
              intro l
              induction l with
              | nil => simp
              | cons x l ih =>
                intro hm
                have h2 := ih fun t ht => hm t (by simp [ht])
                have h3 := cutGo_mem sg s 0 [] x (hm x (by simp))
                have h4 := (rdE_made n x (by simp at h3; omega)).2
                simp at h2 ⊢
                omega
            exact this _ fun _ h => h
          have h2 := sum_double (cutL sg s)
          have h3 := cutGo_sum sg s 0 []
          simp only [List.length_nil, Nat.add_zero] at h3
          have h4 : ((cutL sg s).map fun t => t.length + 1).sum = s.length + 1 := h3
          omega
      · exact ⟨E.small_mk (by decide) (by simp), by rw [cnt_eq]; simp [E.kids]⟩
    rw [rdE]
    split
    · exact ⟨E.small_mk (by decide) (by simp), by simp [none_cnt]⟩
    · rename_i h0
      have hp : 0 < s.length := List.length_pos_iff.2 h0
      split
      · exact hcut _ _ ‹_›
      · split
        · exact hcut _ _ ‹_›
        · split
          · have hk := rdE_made n s.dropLast (by simp; omega)
            simp only [List.length_dropLast] at hk
            exact ⟨E.small_mk (by decide) (by simpa using hk.1), by rw [cnt_eq]; simp [E.kids]; omega⟩
          · split
            · exact ⟨E.small_mk (by decide) (by simp), by rw [cnt_eq]; simp [E.kids]⟩
            · split
              · have hk := rdE_made n s.tail.dropLast (by simp; omega)
                simp only [List.length_dropLast, List.length_tail] at hk
                exact ⟨hk.1, by omega⟩
              · exact ⟨E.small_mk (by rw [B_size]; omega) (by simp), by rw [cnt_eq]; simp [E.kids]⟩
/-- The expression of a text, and an error's number. -/
def rparse (s : ByteArray) : E × Int := if (rdE 100 s.data.toList).right = true ∧ (rdE 100 s.data.toList).text false = s then (rdE 100 s.data.toList, 0) else (E.none, 2)
set_option maxRecDepth 20000 in
theorem f14 (Gl : Granted) (s : ByteArray) (hs : s.size ≤ 900) : Fun Tryz.prog Gl 114 [vS s] [] (.tup [(rparse s).1.av, vI (rparse s).2]) [] := by
  have hl : s.data.toList.length = s.size := by simp
  have hm := rdE_made 100 s.data.toList (by omega)
  have hf := f29 Gl 100 s.data.toList (by omega) (by omega)
  rw [B_data] at hf
  have hp : rparse s = if (rdE 100 s.data.toList).right = true ∧ (rdE 100 s.data.toList).text false = s then (rdE 100 s.data.toList, 0) else (E.none, 2) := rfl
  rw [hp]
  generalize rdE 100 s.data.toList = e at hm hf ⊢
  have h1 : ¬ 1000 < (s.size : Int) := by omega
  refine fun_of (T := T) (n := 27) (rs := [.cell 2 120, .tmp 3]) Tryz.func114 (by kernel_rfl) rfl rfl rfl tok mixed (by simp) fun C hC => ?_
  refine hC.vc [] 60 ?_
  simp [h1]
  refine hC.call [] hf (by simp [E.av, E.cells]) ?_
  refine hC.vc [] 60 ?_
  simp [E.av, E.cells]
  refine hC.call [] (f30 Gl e hm.1 (by omega)) (by simp [E.av, E.cells]) ?_
  refine hC.vc [] 60 ?_
  cases hr : e.right with
  | false => simp [E.print, hr, E.none, E.op, E.name, E.kids, E.av, E.cells]
  | true =>
    by_cases ht : e.text false = s
    · simp [E.print, hr, ht, E.av, E.cells]
    · simp [E.print, hr, ht, E.none, E.op, E.name, E.kids, E.av, E.cells]
end Go.Proofs.D
/-
  AN EXPRESSION THAT IS WRITTEN IS READ AS IT WAS: by the second reader.
-/
set_option linter.unusedVariables false
set_option linter.unusedSimpArgs false
namespace Go.Proofs.D
open Go Go.Abs
/-- Over a text, at a depth that is not below a bound, nothing is cut. -/
def PassAt (lo sg : Int) (t : List UInt8) : Prop := ∀ (o : Int) (cur r : List UInt8), lo ≤ o → cutGo sg (t ++ r) o cur = cutGo sg r o (cur ++ t)
theorem PassAt.mono {lo hi sg : Int} {t : List UInt8} (h : PassAt lo sg t) (hl : lo ≤ hi) : PassAt hi sg t := fun o cur r ho => h o cur r (by omega)
theorem pass_nil (lo sg : Int) : PassAt lo sg [] := fun o cur r _ => by simp
theorem PassAt.app {lo sg : Int} {t u : List UInt8} (h : PassAt lo sg t) (g : PassAt lo sg u) : PassAt lo sg (t ++ u) := fun o cur r ho => by
  rw [List.append_assoc, h o cur _ ho, g o _ r ho, List.append_assoc]
theorem opn_plain {c : UInt8} (h1 : c ≠ 40) (h2 : c ≠ 41) (o : Int) : opn c.toNat o = o := by
  have e1 : ¬ (c.toNat : Int) = 40 := fun h => h1 (UInt8.toNat_inj.1 (by show c.toNat = 40; omega))
  have e2 : ¬ (c.toNat : Int) = 41 := fun h => h2 (UInt8.toNat_inj.1 (by show c.toNat = 41; omega))
  simp [opn, e1, e2]
theorem pass_one {lo sg : Int} {c : UInt8} (h1 : c ≠ 40) (h2 : c ≠ 41) (h3 : (c.toNat : Int) ≠ sg) : PassAt lo sg [c] := fun o cur r ho => by
  simp only [List.cons_append, List.nil_append, cutGo, opn_plain h1 h2]
  rw [if_neg fun h => h3 h.1]
theorem pass_deep {sg : Int} {c : UInt8} (h1 : c ≠ 40) (h2 : c ≠ 41) : PassAt 1 sg [c] := fun o cur r ho => by
  simp only [List.cons_append, List.nil_append, cutGo, opn_plain h1 h2]
  rw [if_neg fun h => by have := h.2; omega]
theorem pass_par {sg : Int} {t : List UInt8} (h : PassAt 1 sg t) (h1 : sg ≠ 40) (h2 : sg ≠ 41) : PassAt 0 sg (40 :: (t ++ [41])) := fun o cur r ho => by
  have e1 : ((40 : UInt8).toNat : Int) = 40 := rfl
  have e2 : ((41 : UInt8).toNat : Int) = 41 := rfl
  simp only [List.cons_append, cutGo, e1]
  rw [if_neg fun h => h1 h.1.symm]
  have e3 : opn 40 o = o + 1 := by simp [opn]
  rw [e3, List.append_assoc, h (o + 1) _ _ (by omega)]
  simp only [List.cons_append, List.nil_append, cutGo, e2]
  rw [if_neg fun h => h2 h.1.symm]
  have e4 : opn 41 (o + 1) = o := by simp [opn]
  rw [e4]
  simp
theorem pass_tail {lo sg : Int} {c : UInt8} (hc : PassAt lo sg [c]) (f : E → List UInt8) : ∀ xs : List E, (∀ y ∈ xs, PassAt lo sg (f y)) → PassAt lo sg (tailT c f xs)
  | [], _ => pass_nil _ _
  | y :: xs, h => by
    have e : tailT c f (y :: xs) = [c] ++ (f y ++ tailT c f xs) := by simp [tailT]
    rw [e]
    exact hc.app ((h y (by simp)).app (pass_tail hc f xs fun z hz => h z (by simp [hz])))
theorem pass_low {lo sg : Int} (h1 : sg = 124 ∨ sg = 32) : ∀ l : List UInt8, (∀ c ∈ l, isLow c = true) → PassAt lo sg l
  | [], _ => pass_nil _ _
  | c :: l, h => by
    have hc := h c (by simp)
    simp [isLow] at hc
    refine PassAt.app (t := [c]) (pass_one (fun e => ?_) (fun e => ?_) (by omega)) (pass_low h1 l fun d hd => h d (by simp [hd]))
    · subst e; revert hc; decide
    · subst e; revert hc; decide
theorem cut_rows {sg : Int} {c : UInt8} (h1 : c ≠ 40) (h2 : c ≠ 41) (h3 : (c.toNat : Int) = sg) (f : E → List UInt8) : ∀ (xs : List E) (x : E) (cur : List UInt8), (∀ y ∈ x :: xs, PassAt 0 sg (f y)) → cutGo sg (f x ++ tailT c f xs) 0 cur = (cur ++ f x) :: xs.map f
  | [], x, cur, h => by
    have := h x (by simp) 0 cur [] (Int.le_refl _)
    simp only [tailT, List.map_nil, List.flatten_nil]
    rw [this]
    rfl
  | y :: xs, x, cur, h => by
    have e : tailT c f (y :: xs) = c :: (f y ++ tailT c f xs) := by simp [tailT]
    rw [e, h x (by simp) 0 cur _ (Int.le_refl _)]
    simp only [cutGo, opn_plain h1 h2]
    rw [if_pos ⟨h3, trivial⟩, cut_rows h1 h2 h3 f xs y [] fun z hz => h z (by simp at hz ⊢; exact .inr hz)]
    simp
theorem cut_none {sg : Int} {t : List UInt8} (h : PassAt 0 sg t) : cutL sg t = [t] := by
  have := h 0 [] [] (Int.le_refl _)
  rw [List.append_nil] at this
  show cutGo sg t 0 [] = [t]
  rw [this]
  rfl
/-- How a text is made, by the expression. -/
inductive Shape (e : E) : Prop where
  | name (h : e.op = 110) (hl : ∀ c ∈ e.name.data.toList, isLow c = true) (hn : e.name.data.toList ≠ []) (hk : e.kids = []) (ht : ∀ b, e.txl b = e.name.data.toList)
  | unit (h : e.op = 115) (hn : e.name = ⟨#[]⟩) (hk : e.kids = []) (ht : ∀ b, e.txl b = [40, 41])
  | seq (h : e.op = 115) (hn : e.name = ⟨#[]⟩) (x y : E) (xs : List E) (hk : e.kids = x :: y :: xs) (hf : e.txl false = x.txl true ++ tailT 32 (E.txl true) (y :: xs)) (ht : e.txl true = 40 :: (e.txl false ++ [41]))
  | alt (h : e.op = 97) (hn : e.name = ⟨#[]⟩) (x y : E) (xs : List E) (hk : e.kids = x :: y :: xs) (hf : e.txl false = x.txl false ++ tailT 124 (E.txl false) (y :: xs)) (ht : e.txl true = 40 :: (e.txl false ++ [41]))
  | sfx (c : UInt8) (h : (c.toNat : Int) = e.op) (ho : e.op = 42 ∨ e.op = 43 ∨ e.op = 63) (hn : e.name = ⟨#[]⟩) (k : E) (hk : e.kids = [k]) (ht : ∀ b, e.txl b = k.txl true ++ [c])
theorem shape {e : E} (h : e.ok = true) : Shape e := by
  rcases E.ok_ops h with ⟨h1, hk⟩ | ⟨h1, hn, h2⟩ | ⟨h1, hn, h2⟩ | ⟨h1, hn, k, h2, _⟩
  · obtain ⟨a, b'⟩ := name_low6 h h1
    exact .name h1 a b' hk fun b => by unfold E.txl; rw [text_eq, if_pos h1]
  · cases hk : e.kids with
    | nil => exact .unit h1 hn hk fun b => by unfold E.txl; rw [text_eq, if_neg (by omega), if_pos h1, if_pos (by rw [hk]; rfl)]
    | cons x l =>
      cases l with
      | nil => rw [hk] at h2; simp at h2
      | cons y xs =>
        have ht : ∀ b, e.text b = par b (joinB ((x :: y :: xs).map fun k => k.text true) ⟨#[32]⟩) := fun b => by
          have : (!decide (e.op = 97)) = true := by simp; omega
          rw [text_eq, if_neg (by omega), if_pos h1, if_neg (by rw [hk]; simp), hk, this]
        have hf : e.txl false = x.txl true ++ tailT 32 (E.txl true) (y :: xs) := by
          unfold E.txl
          rw [ht, par_list, if_neg (by simp)]
          exact join_list (fun k => k.text true) 32 x (y :: xs)
        refine .seq h1 hn x y xs hk hf ?_
        unfold E.txl
        rw [ht, ht, par_list, par_list]
        simp
  · cases hk : e.kids with
    | nil => rw [hk] at h2; simp at h2
    | cons x l =>
      cases l with
      | nil => rw [hk] at h2; simp at h2
      | cons y xs =>
        have ht : ∀ b, e.text b = par b (joinB ((x :: y :: xs).map fun k => k.text false) ⟨#[124]⟩) := fun b => by
          have : (!decide (e.op = 97)) = false := by simp [h1]
          rw [text_eq, if_neg (by omega), if_neg (by omega), if_pos h1, hk, this]
        have hf : e.txl false = x.txl false ++ tailT 124 (E.txl false) (y :: xs) := by
          unfold E.txl
          rw [ht, par_list, if_neg (by simp)]
          exact join_list (fun k => k.text false) 124 x (y :: xs)
        refine .alt h1 hn x y xs hk hf ?_
        unfold E.txl
        rw [ht, ht, par_list, par_list]
        simp
  · obtain ⟨c, q1, q2, q3⟩ := enc_op (o := e.op) h1
    refine .sfx c ?_ h1 hn k h2 fun b => ?_
    · rcases q2 with ⟨a, rfl⟩ | ⟨a, rfl⟩ | ⟨a, rfl⟩ <;> rw [a] <;> rfl
    · unfold E.txl
      rw [text_eq, if_neg (by omega), if_neg (by omega), if_neg (by omega), app_list, h2, q1, B_list]
      have e1 : joinB ([k].map fun z => z.text (!decide (e.op = 97))) ⟨#[]⟩ = k.text (!decide (e.op = 97)) := ext_list (by simp [joinB, Lib.join_one])
      have e2 : (!decide (e.op = 97)) = true := by simp; omega
      rw [e1, e2]
theorem txl_pass (e : E) (h : e.ok = true) (sg : Int) (hs : sg = 124 ∨ sg = 32) : (∀ b, PassAt 1 sg (e.txl b)) ∧ PassAt 0 sg (e.txl true) ∧ (¬ (e.op = 97 ∨ (sg = 32 ∧ e.op = 115 ∧ e.kids ≠ [])) → PassAt 0 sg (e.txl false)) := by
  have hkid : ∀ k ∈ e.kids, ¬ e.op = 110 → k.op ≠ e.op ∧ (∀ b, PassAt 1 sg (k.txl b)) ∧ PassAt 0 sg (k.txl true) ∧ (¬ (k.op = 97 ∨ (sg = 32 ∧ k.op = 115 ∧ k.kids ≠ [])) → PassAt 0 sg (k.txl false)) := fun k hk h1 =>
    ⟨(E.ok_kids h h1 k hk).2, txl_pass k (E.ok_kids h h1 k hk).1 sg hs⟩
  have h40 : sg ≠ 40 := by omega
  have h41 : sg ≠ 41 := by omega
  have both : (∀ b, PassAt 0 sg (e.txl b)) → (∀ b, PassAt 1 sg (e.txl b)) ∧ PassAt 0 sg (e.txl true) ∧ (¬ (e.op = 97 ∨ (sg = 32 ∧ e.op = 115 ∧ e.kids ≠ [])) → PassAt 0 sg (e.txl false)) := fun hb =>
    ⟨fun b => (hb b).mono (by omega), hb true, fun _ => hb false⟩
  have brk : PassAt 1 sg (e.txl false) → e.txl true = 40 :: (e.txl false ++ [41]) → (¬ (e.op = 97 ∨ (sg = 32 ∧ e.op = 115 ∧ e.kids ≠ [])) → PassAt 0 sg (e.txl false)) → (∀ b, PassAt 1 sg (e.txl b)) ∧ PassAt 0 sg (e.txl true) ∧ (¬ (e.op = 97 ∨ (sg = 32 ∧ e.op = 115 ∧ e.kids ≠ [])) → PassAt 0 sg (e.txl false)) := fun h1 ht h0 => by
    have hp := pass_par h1 h40 h41
    rw [← ht] at hp
    refine ⟨fun b => ?_, hp, h0⟩
    cases b
    · exact h1
    · exact hp.mono (by omega)
  cases shape h with
  | name h1 hl hn hk ht => exact both fun b => by rw [ht]; exact pass_low hs _ hl
  | unit h1 hn hk ht =>
    refine both fun b => ?_
    rw [ht]
    exact pass_par (t := []) (pass_nil _ _) h40 h41
  | sfx c hc ho hn k hk ht =>
    have hkk := hkid k (by rw [hk]; simp) (by omega)
    refine both fun b => ?_
    rw [ht]
    refine hkk.2.2.1.app (pass_one (fun e => ?_) (fun e => ?_) (by omega))
    · subst e; have : ((40 : UInt8).toNat : Int) = 40 := rfl; omega
    · subst e; have : ((41 : UInt8).toNat : Int) = 41 := rfl; omega
  | seq h1 hn x y xs hk hf ht =>
    have hkk := fun z hz => hkid z hz (by omega)
    have hx := fun z (hz : z ∈ x :: y :: xs) => hkk z (by rw [hk]; exact hz)
    refine brk ?_ ht fun hno => ?_
    · rw [hf]
      exact ((hx x (by simp)).2.1 true).app (pass_tail (pass_deep (by decide) (by decide)) _ _ fun z hz => (hx z (List.mem_cons_of_mem _ hz)).2.1 true)
    · rw [hf]
      have h124 : sg = 124 := by
        rcases hs with h | h
        · exact h
        · exact absurd (.inr ⟨h, h1, by rw [hk]; simp⟩) hno
      subst h124
      exact (hx x (by simp)).2.2.1.app (pass_tail (pass_one (by decide) (by decide) (by decide)) _ _ fun z hz => (hx z (List.mem_cons_of_mem _ hz)).2.2.1)
  | alt h1 hn x y xs hk hf ht =>
    have hkk := fun z hz => hkid z hz (by omega)
    have hx := fun z (hz : z ∈ x :: y :: xs) => hkk z (by rw [hk]; exact hz)
    refine brk ?_ ht fun hno => absurd (.inl h1) hno
    rw [hf]
    exact ((hx x (by simp)).2.1 false).app (pass_tail (pass_deep (by decide) (by decide)) _ _ fun z hz => (hx z (List.mem_cons_of_mem _ hz)).2.1 false)
termination_by SizeOf.sizeOf e
decreasing_by exact E.kids_lt hk
end Go.Proofs.D
/-
  AN EXPRESSION THAT IS WRITTEN IS READ AS IT WAS, by both readers: so both answer alike.
-/
set_option linter.unusedVariables false
set_option linter.unusedSimpArgs false
namespace Go.Proofs.D
open Go Go.Abs
theorem lastI_snoc (l : List UInt8) (c : UInt8) : lastI (l ++ [c]) = (c.toNat : Int) := by simp [lastI]
theorem mk_eta (e : E) : e = .mk e.op e.name e.kids := by obtain ⟨o, n, k⟩ := e; rfl
theorem rdE_plain (n : Nat) (t : List UInt8) (h : t ≠ []) (h1 : PassAt 0 124 t) (h2 : PassAt 0 32 t) : rdE (n + 1) t = rdR n t := by
  rw [rdE, if_neg h, cut_none h1, cut_none h2, if_neg (by simp), if_neg (by simp)]
  rfl
theorem low_last {l : List UInt8} (h : ∀ c ∈ l, isLow c = true) (hn : l ≠ []) : 97 ≤ lastI l := by
  have hm := h _ (List.getLast_mem hn)
  simp only [lastI, List.getLast?_eq_some_getLast hn, Option.getD_some]
  simp [isLow] at hm
  omega
theorem map_id (l : List E) (f : List UInt8 → E) (g : E → List UInt8) (h : ∀ y ∈ l, f (g y) = y) : (l.map g).map f = l := by
  rw [List.map_map]
  induction l with
  | nil => rfl
  | cons x l ih =>
    rw [List.map_cons, ih fun y hy => h y (by simp [hy])]
    rw [Function.comp_apply, h x (by simp)]
theorem rd_text : ∀ (m : Nat) (e : E), e.cnt ≤ m → e.ok = true → e.cnt ≤ 29 → (∀ n, 2 * e.cnt ≤ n + 1 → rdE n (e.txl false) = e) ∧ (∀ n, 2 * e.cnt ≤ n → rdE n (e.txl true) = e)
  | 0, e, hm, _, _ => by have := cnt_eq e; omega
  | m + 1, e, hm, hok, h29 => by
    have hc := cnt_eq e
    have IH : ∀ k ∈ e.kids, ¬ e.op = 110 → k.op ≠ e.op ∧ k.ok = true ∧ k.cnt < e.cnt ∧ (∀ n, 2 * k.cnt ≤ n + 1 → rdE n (k.txl false) = k) ∧ (∀ n, 2 * k.cnt ≤ n → rdE n (k.txl true) = k) := fun k hk h1 => by
      have hlt := cnt_kid hk
      have ho := E.ok_kids hok h1 k hk
      exact ⟨ho.2, ho.1, hlt, rd_text m k (by omega) ho.1 (by omega)⟩
    have hp124 := txl_pass e hok 124 (.inl rfl)
    have hp32 := txl_pass e hok 32 (.inr rfl)
    have hkl := kids_le e
    have hkl2 : e.kids.length + 1 ≤ e.cnt := by
      have : ∀ l : List E, l.length ≤ (l.map E.cnt).sum := fun l => by
        induction l with
        | nil => simp
        | cons x l ih => have : 1 ≤ x.cnt := (by rw [cnt_eq]; omega); simp; omega
      have := this e.kids
      omega
    -- in brackets
    have brk : ∀ t, e.txl true = 40 :: (t ++ [41]) → t = e.txl false → t ≠ [] → (∀ n, 2 * e.cnt ≤ n + 1 → rdE n (e.txl false) = e) → ∀ n, 2 * e.cnt ≤ n → rdE n (e.txl true) = e := fun t ht htt hne hf n hn => by
      obtain ⟨n, rfl⟩ : ∃ j, n = j + 1 := ⟨n - 1, by omega⟩
      rw [rdE_plain n _ (by rw [ht]; simp) hp124.2.1 hp32.2.1, ht]
      have hl : lastI (40 :: (t ++ [41])) = 41 := lastI_snoc (40 :: t) 41
      have hh : headI (40 :: (t ++ [41])) = 40 := rfl
      unfold rdR
      rw [hl, hh, if_neg (by omega), if_neg (by intro h; cases t with | nil => exact hne rfl | cons a t => simp at h), if_pos ⟨rfl, rfl⟩]
      have : (40 :: (t ++ [41])).tail.dropLast = t := by simp
      rw [this, htt]
      exact hf n (by omega)
    have hne : ∀ b, e.txl b ≠ [] := fun b h => by
      obtain ⟨c, l, h', _⟩ := head_ok e hok b
      rw [h] at h'
      cases h'
    cases shape hok with
    | name h1 hl hn hk ht =>
      have key : ∀ n, 2 * e.cnt ≤ n + 1 → ∀ b, rdE n (e.txl b) = e := fun n hn' b => by
        obtain ⟨n, rfl⟩ : ∃ j, n = j + 1 := ⟨n - 1, by omega⟩
        rw [rdE_plain n _ (hne b) (by rw [ht b, ← ht true]; exact hp124.2.1) (by rw [ht b, ← ht true]; exact hp32.2.1), ht b]
        have := low_last hl hn
        have hnu : ¬ e.name.data.toList = [40, 41] := fun h => by have := hl 40 (by rw [h]; simp); revert this; decide
        unfold rdR
        rw [if_neg (by omega), if_neg hnu, if_neg (by omega), B_data]
        conv => rhs; rw [mk_eta e, h1, hk]
      exact ⟨fun n hn' => key n hn' false, fun n hn' => key n (by omega) true⟩
    | unit h1 hn hk ht =>
      have key : ∀ n, 2 * e.cnt ≤ n + 1 → ∀ b, rdE n (e.txl b) = e := fun n hn' b => by
        obtain ⟨n, rfl⟩ : ∃ j, n = j + 1 := ⟨n - 1, by omega⟩
        rw [rdE_plain n _ (hne b) (by rw [ht b, ← ht true]; exact hp124.2.1) (by rw [ht b, ← ht true]; exact hp32.2.1), ht b]
        have hl : lastI [40, 41] = 41 := rfl
        unfold rdR
        rw [hl, if_neg (by omega), if_pos rfl]
        conv => rhs; rw [mk_eta e, h1, hn, hk]
      exact ⟨fun n hn' => key n hn' false, fun n hn' => key n (by omega) true⟩
    | sfx c hcc ho hn k hk ht =>
      have hkk := IH k (by rw [hk]; simp) (by omega)
      have key : ∀ n, 2 * e.cnt ≤ n + 1 → ∀ b, rdE n (e.txl b) = e := fun n hn' b => by
        obtain ⟨n, rfl⟩ : ∃ j, n = j + 1 := ⟨n - 1, by omega⟩
        rw [rdE_plain n _ (hne b) (by rw [ht b, ← ht true]; exact hp124.2.1) (by rw [ht b, ← ht true]; exact hp32.2.1), ht b]
        unfold rdR
        rw [lastI_snoc, if_pos (by omega), List.dropLast_concat, hkk.2.2.2.2 n (by omega), hcc]
        conv => rhs; rw [mk_eta e, hn, hk]
      exact ⟨fun n hn' => key n hn' false, fun n hn' => key n (by omega) true⟩
    | seq h1 hn x y xs hk hf ht =>
      have hkk := fun z hz => IH z hz (by omega)
      have hx := fun z (hz : z ∈ x :: y :: xs) => hkk z (by rw [hk]; exact hz)
      have key : ∀ n, 2 * e.cnt ≤ n + 1 → rdE n (e.txl false) = e := fun n hn' => by
        obtain ⟨n, rfl⟩ : ∃ j, n = j + 1 := ⟨n - 1, by omega⟩
        have c1 := cut_none (hp124.2.2 (by simp; omega))
        have c2 : cutL 32 (e.txl false) = (x :: y :: xs).map (E.txl true) := by
          rw [hf]
          exact cut_rows (c := 32) (by decide) (by decide) rfl (E.txl true) (y :: xs) x [] fun z hz => (txl_pass z (hx z hz).2.1 32 (.inr rfl)).2.1
        rw [rdE, if_neg (hne false), c1, if_neg (by simp), c2, if_pos (by simp), if_pos (by rw [List.length_map, ← hk]; omega),
          map_id _ _ _ fun z hz => (hx z hz).2.2.2.2 n (by have := (hx z hz).2.2.1; omega), ← hk]
        conv => rhs; rw [mk_eta e, h1, hn]
      exact ⟨key, brk _ ht rfl (hne false) key⟩
    | alt h1 hn x y xs hk hf ht =>
      have hkk := fun z hz => IH z hz (by omega)
      have hx := fun z (hz : z ∈ x :: y :: xs) => hkk z (by rw [hk]; exact hz)
      have key : ∀ n, 2 * e.cnt ≤ n + 1 → rdE n (e.txl false) = e := fun n hn' => by
        obtain ⟨n, rfl⟩ : ∃ j, n = j + 1 := ⟨n - 1, by omega⟩
        have c2 : cutL 124 (e.txl false) = (x :: y :: xs).map (E.txl false) := by
          rw [hf]
          exact cut_rows (c := 124) (by decide) (by decide) rfl (E.txl false) (y :: xs) x [] fun z hz => (txl_pass z (hx z hz).2.1 124 (.inl rfl)).2.2 (by have := (hx z hz).1; simp; omega)
        rw [rdE, if_neg (hne false), c2, if_pos (by simp), if_pos (by rw [List.length_map, ← hk]; omega),
          map_id _ _ _ fun z hz => (hx z hz).2.2.2.1 n (by have := (hx z hz).2.2.1; omega), ← hk]
        conv => rhs; rw [mk_eta e, h1, hn]
      exact ⟨key, brk _ ht rfl (hne false) key⟩
end Go.Proofs.D
/-
  BOTH READERS OF EXPRESSIONS answer alike.
-/
set_option linter.unusedVariables false
set_option linter.unusedSimpArgs false
namespace Go.Proofs.D
open Go Go.Abs
/-- Both readers answer alike. -/
theorem parse_rparse (s : ByteArray) (hs : s.size ≤ 900) : rparse s = parse s := by
  have hl : s.data.toList.length = s.size := by simp
  have hm := rdE_made 100 s.data.toList (by omega)
  rcases parse_sound s with h | ⟨h1, h2, h3⟩
  · unfold rparse
    split
    · rename_i hc
      exfalso
      have hcn : (rdE 100 s.data.toList).cnt ≤ 1000 := by
        have hr := hc.1
        simp [E.right] at hr
        have := many_cnt (rdE 100 s.data.toList) (by omega)
        omega
      have := parse_text _ hc.1 hcn
      rw [hc.2, h] at this
      have := congrArg Prod.snd this
      simp at this
    · exact h.symm
  · obtain ⟨a, hpc⟩ := parse_small s (by omega)
    generalize he : parse s = p at *
    obtain ⟨e, f⟩ := p
    simp only at h1 h2 h3 hpc
    subst h1
    have hok : e.ok = true := by simp [E.right] at h2; exact h2.2
    have h24 : e.cnt ≤ 24 := by
      simp [E.right] at h2
      have := many_cnt e (by omega)
      omega
    have hr : rdE 100 s.data.toList = e := by
      rw [← h3]
      exact (rd_text 24 e h24 hok (by omega)).1 100 (by omega)
    unfold rparse
    rw [hr, if_pos ⟨h2, h3⟩]
end Go.Proofs.D
