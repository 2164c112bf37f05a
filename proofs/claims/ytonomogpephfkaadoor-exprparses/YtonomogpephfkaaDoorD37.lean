/-
  THE SECOND ANSWER: the expression of a text.
-/
import Derived.Test.YtonomogpephfkaaDoorD36
set_option linter.unusedVariables false
set_option linter.unusedSimpArgs false
set_option linter.unusedSimpArgs false
namespace Go.Proofs.D
open Go Go.Abs
attribute [local simp] VC stepV stepTop stepReg stepOp stMove stPick stBin stUn stConv stBox stAlloc stLoad stStore stFieldAddr stField stExtract stNilCheck stMakeFunc stIndexAddr stIndex stLen
  stBuild placesOf fillA stBuildSlice sliceCells repL chunks allPV toPV drawOk drawOk.go mayMakeO mayMake1 disjoint pairOk Oper.apart Oper.looksAt Op.operands Call.operands Region.binds stAppend appBase appTail unName stSlice bndA
  LS.ev LS.get LS.blk LS.put LS.app LS.upd lkS lkH setS setH Nm.eqb guardOf nexts okPair dstOk AV.cellsOf takeAt putAt lkT sliceE fieldT intK isStrT isBoolT abin newOk LS.freshB LS.freshB.go LS.freshB.goH notIn AV.ments AV.ments.mentsL Blk.ments makes upsMents LS.start startL exitTo T Nat.blt
  conv convS convH srcs srcOf blkOk leA leA.leL leB leP laid laidM isArg subH retP resAV resL res1 AV.frz AV.frz.frzL evL AV.ren AV.ren.renL Blk.ren renBs blksOf allSome nodupB onlyArgs blksMents callUps keyed inName inName.go backName callSide
abbrev cutL (sg : Int) (s : List UInt8) : List (List UInt8) := cutGo sg s 0 []
def lastI (s : List UInt8) : Int := ((s.getLast?.getD 0).toNat : Int)
def headI (s : List UInt8) : Int := ((s.head?.getD 0).toNat : Int)
def rdE : Nat → List UInt8 → E
  | 0, _ => E.none
  | n + 1, s => if s = [] then E.none else
    if 1 < (cutL 124 s).length then .mk 97 ⟨#[]⟩ (if (cutL 124 s).length < 30 then (cutL 124 s).map (rdE n) else [])
    else if 1 < (cutL 32 s).length then .mk 115 ⟨#[]⟩ (if (cutL 32 s).length < 30 then (cutL 32 s).map (rdE n) else [])
    else if lastI s = 42 ∨ lastI s = 43 ∨ lastI s = 63 then .mk (lastI s) ⟨#[]⟩ [rdE n s.dropLast]
    else if s = [40, 41] then .mk 115 ⟨#[]⟩ []
    else if headI s = 40 ∧ lastI s = 41 then rdE n s.tail.dropLast
    else .mk 110 (B s) []
/-- What is read of a text that is not cut. -/
def rdR (n : Nat) (s : List UInt8) : E :=
  if lastI s = 42 ∨ lastI s = 43 ∨ lastI s = 63 then .mk (lastI s) ⟨#[]⟩ [rdE n s.dropLast]
  else if s = [40, 41] then .mk 115 ⟨#[]⟩ []
  else if headI s = 40 ∧ lastI s = 41 then rdE n s.tail.dropLast
  else .mk 110 (B s) []
theorem cutGo_len (sg : Int) : ∀ (r : List UInt8) (o : Int) (cur : List UInt8), 1 ≤ (cutGo sg r o cur).length
  | [], o, cur => by simp [cutGo]
  | c :: r, o, cur => by
    simp only [cutGo]
    split
    · simp
    · exact cutGo_len sg r _ _
theorem cutGo_mem (sg : Int) : ∀ (r : List UInt8) (o : Int) (cur t : List UInt8), t ∈ cutGo sg r o cur → t.length ≤ r.length + cur.length
  | [], o, cur, t, h => by simp [cutGo] at h; subst h; simp
  | c :: r, o, cur, t, h => by
    simp only [cutGo] at h
    split at h
    · rcases List.mem_cons.1 h with rfl | h
      · simp
      · have := cutGo_mem sg r _ _ t h
        simp at this ⊢
        omega
    · have := cutGo_mem sg r _ _ t h
      simp at this ⊢
      omega
theorem lastI_eq (s : List UInt8) (h : s ≠ []) : byteAt (B s) ((s.length : Int) - 1) = lastI s := by
  rw [byteAt_eq]
  have : ((s.length : Int) - 1).toNat = s.length - 1 := by omega
  rw [this, B_list, lastI, List.getD_eq_getElem?_getD, List.getLast?_eq_getElem?]
theorem headI_eq (s : List UInt8) : byteAt (B s) 0 = headI s := by
  rw [byteAt_eq, B_list, headI, List.getD_eq_getElem?_getD]
  cases s <;> rfl
theorem ext_init (s : List UInt8) : (B s).extract 0 (s.length - 1) = B s.dropLast := by
  rw [slice_B, B_list, List.drop_zero, List.dropLast_eq_take]
theorem ext_mid (s : List UInt8) : (B s).extract 1 (s.length - 1) = B s.tail.dropLast := by
  rw [slice_B, B_list]
  cases s with
  | nil => rfl
  | cons c s =>
    rw [List.tail_cons, List.dropLast_eq_take, List.length_cons, Nat.add_sub_cancel]
    cases s <;> simp
set_option maxRecDepth 20000 in
set_option maxHeartbeats 2000000 in
theorem f29 (Gl : Granted) : ∀ (n : Nat) (s : List UInt8), n ≤ 1000 → s.length ≤ 1000 → Fun Tryd.prog Gl 29 [vS (B s), vI n] [] (rdE n s).av []
  | 0, s, hn, hs => by
    refine fun_of (T := T) (n := 99) (rs := [.cell 4 31]) Tryd.func29 (by kernel_rfl) rfl rfl rfl tok mixed (by simp) fun C hC => ?_
    refine hC.vc [] 60 ?_
    by_cases h : B s = ⟨#[]⟩
    · simp [h, rdE, E.av, E.cells, E.none, E.op, E.name, E.kids]
    · simp [h, rdE, E.av, E.cells, E.none, E.op, E.name, E.kids]
  | n + 1, s, hn, hs => by
    have IH : ∀ t : List UInt8, t.length ≤ s.length → Fun Tryd.prog Gl 29 [vS (B t), vI n] [] (rdE n t).av [] := fun t ht => f29 Gl n t (by omega) (by omega)
    refine fun_of (T := T) (n := 99) (rs := [.cell 4 31]) Tryd.func29 (by kernel_rfl) rfl rfl rfl tok mixed (by simp) fun C hC => ?_
    have hB : B s = ⟨#[]⟩ ↔ s = [] := ⟨fun h => by have := congrArg (fun x => x.data.toList) h; simpa using this, fun h => by subst h; rfl⟩
    by_cases h : s = []
    · refine hC.vc [] 60 ?_
      have h' := hB.2 h
      simp [h', rdE, h, E.av, E.cells, E.none, E.op, E.name, E.kids]
    · have h' : ¬ B s = ⟨#[]⟩ := fun x => h (hB.1 x)
      have hn0 : ¬ ((n : Int) + 1 = 0) := by omega
      have hr : rdE (n + 1) s = if 1 < (cutL 124 s).length then .mk 97 ⟨#[]⟩ (if (cutL 124 s).length < 30 then (cutL 124 s).map (rdE n) else []) else if 1 < (cutL 32 s).length then .mk 115 ⟨#[]⟩ (if (cutL 32 s).length < 30 then (cutL 32 s).map (rdE n) else []) else rdR n s := by
        rw [rdE, if_neg h]
        rfl
      generalize rdE (n + 1) s = R at hr hC
      refine hC.vc [] 20 ?_
      simp [h', hn0]
      refine hC.call [] (f55 Gl (B s) 124 (by rw [B_size]; omega)) (by simp) ?_
      refine hC.vc [] 6 ?_
      simp [h', hn0]
      have hcB : ∀ sg, cutB sg (B s) = (cutL sg s).map B := fun sg => by rw [cutB, B_list]
      rw [hcB]
      refine go_cut (ι := {x : Int × List (List UInt8) // (∀ t ∈ x.2, t.length ≤ s.length) ∧ R = if 1 < x.2.length then .mk x.1 ⟨#[]⟩ (if x.2.length < 30 then x.2.map (rdE n) else []) else rdR n s})
        (fun x => ⟨[(0, vS (B s)), (1, vI ((n : Int) + 1)), (4, .ptr (.loc 4) 0), (5, .pv (.ro 1 (rowS (x.1.2.map B)))), (6, .pv (.val (.int .u8 x.1.1)))], [(.loc 4, some (.box 31 [.pv (.val (.int .u8 0)), .pv (.val (.string ⟨#[]⟩)), .pv (.nilS 3)]))]⟩) (fun x => ?_) (fun tail => ?_)
      · obtain ⟨⟨op, l⟩, hl, hr⟩ := x
        dsimp only at hl hr
        by_cases h1 : 1 < l.length
        · rw [if_pos h1] at hr
          have h1i : 1 < (l.length : Int) := by omega
          have hwn : wr .i64 ((n : Int)) = n := wr64 _ (by omega)
          by_cases h30 : l.length < 30
          · rw [if_pos h30] at hr
            have h30i : (l.length : Int) < 30 := by omega
            refine hC.vc [] 60 ?_
            simp [h1i]
            refine go_loop (ι := {i : Nat // i ≤ l.length}) (fun x => ⟨[(0, vS (B s)), (1, vI ((n : Int) + 1)), (4, .ptr (.loc 4) 0), (5, .pv (.ro 1 (rowS (l.map B)))), (7, .ptr (.loc 7) 0), (8, vI x.1)],
                [(.loc 4, some (.box 31 [.pv (.val (.int .u8 0)), .pv (.val (.string ⟨#[]⟩)), .pv (.nilS 3)])), (.loc 7, some (.box 31 [.pv (.val (.int .u8 op)), .pv (.val (.string ⟨#[]⟩)), .own (.can 0)])), (.can 0, some (.row 31 3 (((l.take x.1).map (rdE n)).map E.pv)))]⟩)
              (fun x => l.length - x.1) ⟨0, Nat.zero_le _⟩ [(.can 0, .nil)] (by simp) fun x ih => ?_
            obtain ⟨i, hi⟩ := x
            simp only at hi ih
            have hw1 := wr64 ((i : Int) + 1) (by omega)
            by_cases hlt : i < l.length
            · refine hC.vc [] 60 ?_
              simp [hlt, h30i, hwn]
              refine hC.call [] (IH l[i] (hl _ (by simp))) (by simp [E.av, E.cells]) ?_
              have htk : (l.map (E.pv ∘ rdE n)).take (i + 1) = (l.map (E.pv ∘ rdE n)).take i ++ [[.val (.int .u8 (rdE n l[i]).op), .val (.string (rdE n l[i]).name), .ro 3 ((rdE n l[i]).kids.map E.pv)]] := by
                rw [List.take_add_one, List.getElem?_map, List.getElem?_eq_getElem hlt, Option.map_some, Function.comp_apply, E.pv_eq (rdE n l[i])]
                rfl
              refine hC.vc [] 60 ?_
              simp [E.av, E.cells]
              refine ⟨by omega, ?_⟩
              exact go_to [(.can 0, .nm (.loc 50))] (ih ⟨i + 1, hlt⟩ (by simp; omega)) (by simp [hw1, E.cells, htk])
            · refine hC.vc [] 60 ?_
              simp [hlt, h30i]
              have : (l.map (E.pv ∘ rdE n)).take i = l.map (E.pv ∘ rdE n) := List.take_of_length_le (by simp; omega)
              simp [this, hr, E.av, E.cells, E.op, E.name, E.kids]
          · rw [if_neg h30] at hr
            have h30i : ¬ (l.length : Int) < 30 := by omega
            refine hC.vc [] 60 ?_
            simp [h1i]
            refine go_loop (ι := Unit) (fun x => ⟨[(0, vS (B s)), (1, vI ((n : Int) + 1)), (4, .ptr (.loc 4) 0), (5, .pv (.ro 1 (rowS (l.map B)))), (7, .ptr (.loc 7) 0), (8, vI 0)],
                [(.loc 4, some (.box 31 [.pv (.val (.int .u8 0)), .pv (.val (.string ⟨#[]⟩)), .pv (.nilS 3)])), (.loc 7, some (.box 31 [.pv (.val (.int .u8 op)), .pv (.val (.string ⟨#[]⟩)), .pv (.nilS 3)]))]⟩)
              (fun x => 0) () [] (by simp) fun x ih => ?_
            have h0 : 0 < l.length := by omega
            refine hC.vc [] 60 ?_
            simp [h30i, h0, hr, E.av, E.cells, E.op, E.name, E.kids]
        · rw [if_neg h1] at hr
          have h1i : ¬ 1 < (l.length : Int) := by omega
          have hz := B_size s
          have hwl : wr .i64 ((s.length : Int) - 1) = (s.length : Int) - 1 := wr64 _ (by omega)
          have hwn : wr .i64 ((n : Int)) = n := wr64 _ (by omega)
          have htn : ((s.length : Int) - 1).toNat = s.length - 1 := by omega
          have hla := lastI_eq s h
          have hha := headI_eq s
          have hpos : 0 < s.length := List.length_pos_iff.2 h
          have hpos' : (s.length : Int) - 1 < s.length := by omega
          have hpos'' : (0 : Int) ≤ (s.length : Int) - 1 := by omega
          have hB2 : B s = ⟨#[40, 41]⟩ ↔ s = [40, 41] := ⟨fun h => by have := congrArg (fun x => x.data.toList) h; simpa using this, fun h => by subst h; rfl⟩
          have hrr : rdR n s = if lastI s = 42 ∨ lastI s = 43 ∨ lastI s = 63 then .mk (lastI s) ⟨#[]⟩ [rdE n s.dropLast] else if s = [40, 41] then .mk 115 ⟨#[]⟩ [] else if headI s = 40 ∧ lastI s = 41 then rdE n s.tail.dropLast else .mk 110 (B s) [] := rfl
          rw [hr] at hC
          by_cases c1 : lastI s = 42
          · rw [hrr, if_pos (.inl c1), c1] at hC
            refine hC.vc [] 60 ?_
            simp [h1i, hz, hwl, hla, hpos, hpos', hpos'', htn, hwn, ext_init, c1]
            refine ⟨by omega, ⟨by omega, by omega⟩, ?_⟩
            refine hC.call [] (IH s.dropLast (by simp)) (by simp [E.av, E.cells]) ?_
            refine hC.vc [] 60 ?_
            simp [E.av, E.cells, E.op, E.name, E.kids, E.pv_eq (rdE n s.dropLast)]
          · by_cases c2 : lastI s = 43
            · rw [hrr, if_pos (.inr (.inl c2)), c2] at hC
              refine hC.vc [] 60 ?_
              simp [h1i, hz, hwl, hla, hpos, hpos', hpos'', htn, hwn, ext_init, c1, c2]
              refine ⟨by omega, ⟨by omega, by omega⟩, ?_⟩
              refine hC.call [] (IH s.dropLast (by simp)) (by simp [E.av, E.cells]) ?_
              refine hC.vc [] 60 ?_
              simp [E.av, E.cells, E.op, E.name, E.kids, E.pv_eq (rdE n s.dropLast)]
            · by_cases c3 : lastI s = 63
              · rw [hrr, if_pos (.inr (.inr c3)), c3] at hC
                refine hC.vc [] 60 ?_
                simp [h1i, hz, hwl, hla, hpos, hpos', hpos'', htn, hwn, ext_init, c1, c2, c3]
                refine ⟨by omega, ⟨by omega, by omega⟩, ?_⟩
                refine hC.call [] (IH s.dropLast (by simp)) (by simp [E.av, E.cells]) ?_
                refine hC.vc [] 60 ?_
                simp [E.av, E.cells, E.op, E.name, E.kids, E.pv_eq (rdE n s.dropLast)]
              · rw [if_neg (by omega)] at hrr
                by_cases c4 : s = [40, 41]
                · rw [hrr, if_pos c4] at hC
                  have c4' : (B s = ⟨#[40, 41]⟩) = True := eq_true (hB2.2 c4)
                  refine hC.vc [] 60 ?_
                  simp [h1i, hz, hwl, hla, hpos, hpos', hpos'', htn, hwn, ext_init, c1, c2, c3, c4', E.av, E.cells, E.op, E.name, E.kids]
                  omega
                · rw [if_neg c4] at hrr
                  have c4' : ¬ B s = ⟨#[40, 41]⟩ := fun x => c4 (hB2.1 x)
                  by_cases c5 : headI s = 40
                  · by_cases c6 : lastI s = 41
                    · rw [hrr, if_pos ⟨c5, c6⟩] at hC
                      refine hC.vc [] 100 ?_
                      simp [h1i, hz, hwl, hla, hpos, hpos', hpos'', htn, hwn, ext_init, hha, c1, c2, c3, c4', c5, c6, ext_mid]
                      have h2l : 2 ≤ s.length := by
                        match s, h, c5, c6 with
                        | [c], _, c5, c6 => simp [headI] at c5; simp [lastI] at c6; omega
                        | _ :: _ :: _, _, _, _ => simp
                      refine ⟨by omega, ⟨by omega, by omega⟩, ?_⟩
                      refine hC.call [] (IH s.tail.dropLast (by simp; omega)) (by simp [E.av, E.cells]) ?_
                      refine hC.vc [] 60 ?_
                      simp [E.av, E.cells]
                    · rw [hrr, if_neg (fun x => c6 x.2)] at hC
                      refine hC.vc [] 100 ?_
                      simp [h1i, hz, hwl, hla, hpos, hpos', hpos'', htn, hwn, ext_init, hha, c1, c2, c3, c4', c5, c6, E.av, E.cells, E.op, E.name, E.kids]
                      omega
                  · rw [hrr, if_neg (fun x => c5 x.1)] at hC
                    refine hC.vc [] 100 ?_
                    simp [h1i, hz, hwl, hla, hpos, hpos', hpos'', htn, hwn, ext_init, hha, c1, c2, c3, c4', c5, E.av, E.cells, E.op, E.name, E.kids]
                    omega
      · have h1 : 1 ≤ (cutL 124 s).length := cutGo_len 124 s 0 []
        have hm := fun sg t ht => cutGo_mem sg s 0 [] t ht
        simp only [List.length_nil, Nat.add_zero] at hm
        by_cases h2 : ((cutL 124 s).length : Int) = 1
        · refine hC.vc [] 20 ?_
          simp [h2]
          refine hC.call [] (f55 Gl (B s) 32 (by rw [B_size]; omega)) (by simp) ?_
          refine hC.vc [] 5 ?_
          simp
          rw [hcB]
          have h3 : ¬ 1 < (cutL 124 s).length := by omega
          rw [if_neg h3] at hr
          exact go_to [] (tail ⟨(115, cutL 32 s), hm 32, hr⟩) (by simp)
        · refine hC.vc [] 8 ?_
          simp [h2]
          have h3 : 1 < (cutL 124 s).length := by omega
          rw [if_pos h3] at hr
          exact go_to [] (tail ⟨(97, cutL 124 s), hm 124, by dsimp only; rw [if_pos h3]; exact hr⟩) (by simp)
end Go.Proofs.D
