/-
  THE TYPES of tables of states; tables, and rows of numbers, as they lie in memory.
-/
import Derived.Test.YtciibpfhjfegnaaGreatDoorLO
import Derived.Test.YtciibpfhjfegnaaGreatDoorAbsLR
import Derived.Test.YtciibpfhjfegnaaGreatDoorAbsR
import Derived.Test.YtciibpfhjfegnaaGreatDoorL6
set_option linter.unusedVariables false
set_option linter.unusedSimpArgs false
namespace Go.Proofs.D
open Go Go.Abs
def T5 : TT := (28, ⟨false, 1, 24, [.nilS 1], .slice 37⟩) ::
  (29, ⟨false, 1, 24, [.nilS 1], .slice 4⟩) ::
  (31, ⟨true, 3, 72, [.nilS 1, .nilS 1, .nilS 1], .str [(0, 25), (1, 28), (2, 29)]⟩) ::
  (37, ⟨false, 1, 24, [.nilS 1], .slice 3⟩) ::
  (49, ⟨true, 3, 72, [.nilS 1, .nilS 1, .nilS 1], .str [(0, 25), (1, 28), (2, 29)]⟩) ::
  (87, ⟨false, 1, 8, [.val (.pointer none)], .other⟩) ::
  (101, ⟨true, 9, 136, [.val (.int .u32 0), .val (.int .i32 0), .val (.int .u32 0), .val (.int .u8 0), .val (.string ⟨#[]⟩), .nilS 3, .nilS 1, .nilS 1, .nilS 1], .str [(0, 99), (3, 24), (6, 31)]⟩) ::
  (108, ⟨false, 1, 8, [.val .nilFunc], .other⟩) ::
  (111, ⟨false, 1, 8, [.val (.map none)], .other⟩) ::
  (115, ⟨false, 1, 8, [.val (.pointer none)], .other⟩) ::
  (117, ⟨true, 5, 104, [.nilS 1, .nilS 1, .nilS 1, .nilS 1, .val (.bool false)], .str [(0, 25), (1, 37), (2, 37), (3, 28), (4, 4)]⟩) ::
  (127, ⟨false, 1, 24, [.nilS 1], .slice 25⟩) ::
  (159, ⟨false, 1, 8, [.val .nilFunc], .other⟩) ::
  (174, ⟨true, 2, 16, [.val (.int .i64 0), .val (.int .i64 0)], .str [(0, 3), (1, 3)]⟩) ::
  (176, ⟨true, 3, 40, [.val (.int .i64 0), .val (.int .i64 0), .nilS 1], .str [(0, 174), (2, 25)]⟩) ::
  (177, ⟨false, 1, 24, [.nilS 3], .slice 176⟩) ::
  (178, ⟨false, 1, 8, [.val (.map none)], .other⟩) ::
  (203, ⟨false, 1, 24, [.nilS 3], .slice 24⟩) ::
  (205, ⟨false, 1, 8, [.val (.map none)], .other⟩) ::
  (206, ⟨false, 1, 24, [.nilS 1], .slice 205⟩) ::
  (237, ⟨false, 1, 24, [.nilS 1], .slice 203⟩) :: T
theorem tok5 : TOk Tryz.prog T5 :=
  tok_cons (tok1 (z := .slice none 0 0) Tryz.isAgg28 (by kernel_rfl) rfl rfl rfl (by decide) Tryz.underlying28) <|
  tok_cons (tok1 (z := .slice none 0 0) Tryz.isAgg29 (by kernel_rfl) rfl rfl rfl (by decide) Tryz.underlying29) <|
  tok_cons (tok1 (z := .agg #[.slice none 0 0, .slice none 0 0, .slice none 0 0]) Tryz.isAgg31 (by kernel_rfl) rfl rfl rfl (by decide) ⟨_, Tryz.underlying31, rfl⟩) <|
  tok_cons (tok1 (z := .slice none 0 0) Tryz.isAgg37 (by kernel_rfl) rfl rfl rfl (by decide) Tryz.underlying37) <|
  tok_cons (tok1 (z := .agg #[.slice none 0 0, .slice none 0 0, .slice none 0 0]) Tryz.isAgg49 (by kernel_rfl) rfl rfl rfl (by decide) ⟨_, Tryz.underlying49, rfl⟩) <|
  tok_cons (tok1 (z := .pointer none) Tryz.isAgg87 (by kernel_rfl) rfl rfl rfl (by decide) trivial) <|
  tok_cons (tok1 (z := .agg #[.int .u32 0, .int .i32 0, .int .u32 0, .int .u8 0, .string ⟨#[]⟩, .slice none 0 0, .slice none 0 0, .slice none 0 0, .slice none 0 0]) Tryz.isAgg101 (by kernel_rfl) rfl rfl rfl (by decide) ⟨_, Tryz.underlying101, rfl⟩) <|
  tok_cons (tok1 (z := .nilFunc) Tryz.isAgg108 (by kernel_rfl) rfl rfl rfl (by decide) trivial) <|
  tok_cons (tok1 (z := .map none) Tryz.isAgg111 (by kernel_rfl) rfl rfl rfl (by decide) trivial) <|
  tok_cons (tok1 (z := .pointer none) Tryz.isAgg115 (by kernel_rfl) rfl rfl rfl (by decide) trivial) <|
  tok_cons (tok1 (z := .agg #[.slice none 0 0, .slice none 0 0, .slice none 0 0, .slice none 0 0, .bool false]) Tryz.isAgg117 (by kernel_rfl) rfl rfl rfl (by decide) ⟨_, Tryz.underlying117, rfl⟩) <|
  tok_cons (tok1 (z := .slice none 0 0) Tryz.isAgg127 (by kernel_rfl) rfl rfl rfl (by decide) Tryz.underlying127) <|
  tok_cons (tok1 (z := .nilFunc) Tryz.isAgg159 (by kernel_rfl) rfl rfl rfl (by decide) trivial) <|
  tok_cons (tok1 (z := .agg #[.int .i64 0, .int .i64 0]) Tryz.isAgg174 (by kernel_rfl) rfl rfl rfl (by decide) ⟨_, Tryz.underlying174, rfl⟩) <|
  tok_cons (tok1 (z := .agg #[.int .i64 0, .int .i64 0, .slice none 0 0]) Tryz.isAgg176 (by kernel_rfl) rfl rfl rfl (by decide) ⟨_, Tryz.underlying176, rfl⟩) <|
  tok_cons (tok1 (z := .slice none 0 0) Tryz.isAgg177 (by kernel_rfl) rfl rfl rfl (by decide) Tryz.underlying177) <|
  tok_cons (tok1 (z := .map none) Tryz.isAgg178 (by kernel_rfl) rfl rfl rfl (by decide) trivial) <|
  tok_cons (tok1 (z := .slice none 0 0) Tryz.isAgg203 (by kernel_rfl) rfl rfl rfl (by decide) Tryz.underlying203) <|
  tok_cons (tok1 (z := .map none) Tryz.isAgg205 (by kernel_rfl) rfl rfl rfl (by decide) trivial) <|
  tok_cons (tok1 (z := .slice none 0 0) Tryz.isAgg206 (by kernel_rfl) rfl rfl rfl (by decide) Tryz.underlying206) <|
  tok_cons (tok1 (z := .slice none 0 0) Tryz.isAgg237 (by kernel_rfl) rfl rfl rfl (by decide) Tryz.underlying237) <| tok
abbrev ints (l : List Int) : PV := .ro 1 (l.map fun z => [.val (.int .i64 z)])
abbrev nats (l : List Nat) : PV := .ro 1 (l.map fun z : Nat => [.val (.int .i64 (z : Int))])
abbrev namesV (l : List ByteArray) : PV := .ro 1 (l.map fun s => [.val (.string s)])
abbrev rowsV (l : List (List Int)) : PV := .ro 1 (l.map fun r => [ints r])
abbrev setsV (l : List (List Nat)) : PV := .ro 1 (l.map fun r => [nats r])
abbrev finV (l : List Bool) : PV := .ro 1 (l.map fun b => [.val (.bool b)])
abbrev nm0 : AV := .pv (.nilS 1)
def Au.cells (d : Au) : List AV := [.pv (namesV d.names), .pv (rowsV d.next), .pv (finV d.final)]
def Au.av (d : Au) : AV := .agg d.cells
end Go.Proofs.D
namespace Go.Proofs.D
open Go Go.Abs
attribute [local simp] VC VCS stepVS stepTopS firstId memN bigB unmark markT mkOff calmP keepT boundB boundC stepV stepTop stepReg stepOp stMove stPick stBin stUn stConv stBox stAlloc stLoad stStore stFieldAddr stField stExtract stNilCheck stMakeFunc stIndexAddr stIndex stLen
  stBuild placesOf fillA stBuildSlice sliceCells repL chunks allPV toPV drawOk drawOk.go mayMakeO mayMake1 disjoint pairS Oper.apart Oper.looksAt Op.operands Call.operands Region.binds stAppend appBase appTail unName stSlice bndA
  LS.ev LS.get LS.blk LS.put LS.app LS.upd lkS lkH setS setH Nm.eqb guardOf nexts okPair dstOk AV.cellsOf takeAt putAt lkT sliceE fieldT intK isStrT isBoolT abin newOk LS.freshB LS.freshB.go LS.freshB.goH notIn AV.ments AV.ments.mentsL Blk.ments makes upsMents LS.start startL exitTo T T5 outs callSideR callSideO callSideD upsR backO freshAll argB onlyIO List.map List.append List.nil_append List.cons_append Nat.blt
  conv convS convH srcs srcOf blkOk leA leA.leL Go.Abs.leB leP laid laidM laidG isArg subH retP resAV resL res1 AV.frz AV.frz.frzL evL AV.ren AV.ren.renL Blk.ren renBs blksOf allSome nodupB onlyArgs blksMents callUps keyed inName inName.go backName callSide
set_option maxRecDepth 20000 in
theorem h56 (Gl : Granted) (l : List Nat) (n : Nat) : Fun Tryz.prog Gl 56 [.pv (nats l), vI n] [] (vB (decide (n ∈ l))) [] := by
  refine fun_of (T := T5) (n := 18) (rs := [.tmp 4]) Tryz.func56 (by kernel_rfl) rfl rfl rfl tok5 mixed (by simp) fun C hC => ?_
  refine hC.vc [] 60 ?_
  simp
  refine go_len 0 1 (l.map fun z : Nat => [.val (.int .i64 (z : Int))]) (by simp) fun hlen => ?_
  rw [List.length_map] at hlen
  refine go_loop (ι := {i : Nat // i ≤ l.length ∧ (n ∈ l ↔ n ∈ l.drop i)}) (fun x => ⟨[(0, .pv (nats l)), (1, vI n), (5, vI x.1)], []⟩) (fun x => l.length - x.1) ⟨0, by simp⟩ [] (by simp) fun x ih => ?_
  obtain ⟨i, hi, hn⟩ := x
  simp only at hi hn ih
  refine hC.vc [] 60 ?_
  by_cases hlt : i < l.length
  · have hw := wr64 ((i : Int) + 1) (by omega)
    rw [List.drop_eq_getElem_cons hlt, List.mem_cons] at hn
    by_cases he : (l[i] : Int) = n
    · have he' : n = l[i] := by omega
      have : n ∈ l := hn.2 (.inl he')
      simp [hlt, he, this]
    · simp [hlt, he]
      exact go_to [] (ih ⟨i + 1, hlt, hn.trans ⟨fun h => h.resolve_left fun e => he (by rw [e]), .inr⟩⟩ (by simp; omega)) (by simp [hw])
  · rw [List.drop_eq_nil_of_le (by omega)] at hn
    have : ¬ n ∈ l := fun h => by cases hn.1 h
    simp [hlt, this]
set_option maxRecDepth 20000 in
theorem h61 (Gl : Granted) (l k : List Int) : Fun Tryz.prog Gl 61 [.pv (ints l), .pv (ints k)] [] (vB (decide (l = k))) [] := by
  refine fun_of (T := T5) (n := 26) (rs := [.tmp 4]) Tryz.func61 (by kernel_rfl) rfl rfl rfl tok5 mixed (by simp) fun C hC => ?_
  refine hC.vc [] 60 ?_
  by_cases hl : (l.length : Int) = k.length
  · have hl' : l.length = k.length := by omega
    simp [hl]
    refine go_len 0 1 (l.map fun z => [.val (.int .i64 z)]) (by simp) fun hlen => ?_
    rw [List.length_map] at hlen
    refine go_loop (ι := {i : Nat // i ≤ l.length ∧ l.take i = k.take i}) (fun x => ⟨[(0, .pv (ints l)), (1, .pv (ints k)), (5, vI x.1)], []⟩) (fun x => l.length - x.1) ⟨0, by simp⟩ [] (by simp) fun x ih => ?_
    obtain ⟨i, hi, hn⟩ := x
    simp only at hi hn ih
    refine hC.vc [] 60 ?_
    by_cases hlt : i < l.length
    · have hlt' : i < k.length := by omega
      have hw := wr64 ((i : Int) + 1) (by omega)
      simp [hlt, hlt', hl']
      by_cases he : l[i] = k[i]
      · simp [hlt, hlt', he]
        exact go_to [] (ih ⟨i + 1, hlt, by rw [List.take_add_one, List.take_add_one, hn, List.getElem?_eq_getElem hlt, List.getElem?_eq_getElem hlt', he]⟩ (by simp; omega)) (by simp [hw])
      · have : ¬ l = k := fun e => he (by subst e; rfl)
        simp [hlt, hlt', he, this]
    · rw [List.take_of_length_le (by omega), List.take_of_length_le (by omega)] at hn
      have h2 : ¬ i < k.length := by omega
      simp [hlt, h2, hn]
  · have : ¬ l = k := fun e => hl (by rw [e])
    simp [hl, this]
set_option maxRecDepth 20000 in
theorem h28 (Gl : Granted) (e : E) (hc : e.kids.length ≤ 1000000) (hk : ∀ k ∈ e.kids, Fun Tryz.prog Gl 28 [k.av] [] k.av []) : Fun Tryz.prog Gl 28 [e.av] [] e.av [] := by
  refine fun_of (T := T5) (n := 29) (rs := [.cell 2 54]) Tryz.func28 (by kernel_rfl) rfl rfl rfl tok5 mixed (by simp) fun C hC => ?_
  refine hC.vc [] 60 ?_
  simp [E.av, E.cells]
  refine go_loop (ι := {i : Nat // i ≤ e.kids.length}) (fun x => ⟨[(1, .ptr (.loc 1) 0), (2, .ptr (.loc 2) 0), (3, .ptr (.loc 3) 0), (4, vI x.1)],
      [(.loc 1, some (.box 24 e.cells)), (.loc 2, some (.box 54 [.pv (.val (.int .u8 0)), .pv (.val (.string ⟨#[]⟩)), .pv (.nilS 3)])), (.loc 3, some (.box 54 [.pv (.val (.int .u8 e.op)), .pv (.val (.string e.name)), .own (.can 0)])), (.can 0, some (.row 54 3 ((e.kids.take x.1).map E.pv)))]⟩)
    (fun x => e.kids.length - x.1) ⟨0, Nat.zero_le _⟩ [(.can 0, .nil)] (by simp [E.cells]) fun x ih => ?_
  obtain ⟨i, hi⟩ := x
  simp only at hi ih
  have hw1 := wr64 ((i : Int) + 1) (by omega)
  refine hC.vc [] 60 ?_
  by_cases hlt : i < e.kids.length
  · simp [hlt, E.pv_eq, E.cells]
    refine hC.call [] (hk e.kids[i] (by simp)) (by simp [E.av, E.cells]) ?_
    refine hC.vc [] 60 ?_
    simp [E.av, E.cells]
    refine ⟨by omega, ?_⟩
    have htk : (e.kids.map E.pv).take (i + 1) = (e.kids.map E.pv).take i ++ [[.val (.int .u8 e.kids[i].op), .val (.string e.kids[i].name), .ro 3 (e.kids[i].kids.map E.pv)]] := by
      rw [List.take_add_one, List.getElem?_map, List.getElem?_eq_getElem hlt, Option.map_some, E.pv_eq e.kids[i]]
      rfl
    exact go_to [(.can 0, .nm (.loc 26))] (ih ⟨i + 1, hlt⟩ (by simp; omega)) (by simp [hw1, E.cells, htk])
  · simp [hlt, E.cells]
    have : (e.kids.map E.pv).take i = e.kids.map E.pv := List.take_of_length_le (by simp; omega)
    simp [this, E.av, E.cells]
theorem asE7 (Gl : Granted) (e : E) (hc : e.cnt ≤ 1000000) : Fun Tryz.prog Gl 28 [e.av] [] e.av [] :=
  h28 Gl e (by have := kids_le e; omega) fun k hk => asE7 Gl k (by have := cnt_kid hk; omega)
termination_by SizeOf.sizeOf e
decreasing_by exact E.kids_lt hk
def ixG (a : ByteArray) (l : List ByteArray) : Int := if ixK a l < l.length then (ixK a l : Nat) else -1
theorem ixG_not {a : ByteArray} {l : List ByteArray} (h : a ∉ l) : ixG a l = -1 := by simp [ixG, ixK_not h]
theorem ixG_mem {a : ByteArray} {l : List ByteArray} (h : a ∈ l) : ixG a l = (ixK a l : Nat) := by simp [ixG, ixK_lt h]
theorem ixK_of {a : ByteArray} : ∀ {l : List ByteArray} {i : Nat} (h : i < l.length), (∀ j (hj : j < l.length), j < i → l[j] ≠ a) → l[i] = a → ixK a l = i
  | x :: l, 0, _, _, e => by simp at e; simp [ixK, e]
  | x :: l, i + 1, h, h1, e => by
    have hx : x ≠ a := h1 0 (by simp) (by omega)
    have := ixK_of (l := l) (i := i) (by simpa using h) (fun j hj hji => by have := h1 (j + 1) (by simp; omega) (by omega); simpa using this) (by simpa using e)
    simp [ixK, hx, this]
set_option maxRecDepth 20000 in
theorem h46 (Gl : Granted) (l : List ByteArray) (a : ByteArray) : Fun Tryz.prog Gl 46 [.pv (namesV l), vS a] [] (vI (ixG a l)) [] := by
  refine fun_of (T := T5) (n := 19) (rs := [.tmp 4]) Tryz.func46 (by kernel_rfl) rfl rfl rfl tok5 mixed (by simp) fun C hC => ?_
  refine hC.vc [] 60 ?_
  simp
  refine go_len 0 1 (l.map fun s => [.val (.string s)]) (by simp) fun hlen => ?_
  rw [List.length_map] at hlen
  refine go_loop (ι := {i : Nat // i ≤ l.length ∧ ∀ j (hj : j < l.length), j < i → l[j] ≠ a}) (fun x => ⟨[(0, .pv (namesV l)), (1, vS a), (7, vI l.length), (8, vI x.1)], []⟩) (fun x => l.length - x.1) ⟨0, by simp⟩ [] (by simp) fun x ih => ?_
  obtain ⟨i, hi, hn⟩ := x
  simp only at hi hn ih
  refine hC.vc [] 60 ?_
  by_cases hlt : i < l.length
  · have hw := wr64 ((i : Int) + 1) (by omega)
    by_cases he : a = l[i]
    · have hix : ixG a l = i := by
        have := ixK_of hlt hn he.symm
        rw [ixG, this, if_pos hlt]
      simp [hlt, he]
      rw [← he, hix]
    · simp [hlt, he]
      exact go_to [] (ih ⟨i + 1, hlt, fun j hj hji => by
        by_cases e : j = i
        · subst e; exact fun q => he q.symm
        · exact hn j hj (by omega)⟩ (by simp; omega)) (by simp [hw])
  · have hna : ¬ a ∈ l := fun h => by
      obtain ⟨j, hj, e⟩ := List.getElem_of_mem h
      exact hn j hj (by omega) e
    simp [hlt, ixG_not hna]
set_option maxRecDepth 20000 in
theorem h18 (Gl : Granted) (d : Au) (hr : ∀ r ∈ d.next, r.length = d.names.length) (s : Int) (a : ByteArray) : Fun Tryz.prog Gl 18 [d.av, vI s, vS a] [] (vI (d.stp s a)) [] := by
  have h46' := h46 Gl d.names a
  refine fun_of (T := T5) (n := 43) (rs := [.tmp 6]) Tryz.func18 (by kernel_rfl) rfl rfl rfl tok5 mixed (by simp) fun C hC => ?_
  refine hC.vc [] 60 ?_
  simp [Au.av, Au.cells]
  refine hC.call [] h46' (by simp) ?_
  by_cases ha : a ∈ d.names
  · have hix : ixG a d.names = (ixK a d.names : Nat) := ixG_mem ha
    have hil := ixK_lt ha
    rw [hix]
    generalize hj : ixK a d.names = j at hil
    have hj0 : ¬ (j : Int) < 0 := by omega
    by_cases h0 : s < 0
    · have : d.stp s a = -1 := by simp [Au.stp, h0]
      refine hC.vc [] 60 ?_
      simp [hj0, h0, this]
    · obtain ⟨n, hn⟩ : ∃ n : Nat, s = n := ⟨s.toNat, by omega⟩
      subst hn
      by_cases hnl : n < d.next.length
      · have hq := hr _ (List.getElem_mem hnl)
        have hl1 : ¬ (d.next.length : Int) ≤ n := by omega
        have hl3 : ((d.next[n].length : Nat) : Int) = d.names.length := by omega
        have hl2 : ¬ ((d.names.length : Nat) : Int) ≤ j := by omega
        have hst : d.stp n a = d.next[n][j]'(by omega) := by
          have : ¬ (n : Int) < 0 := by omega
          have hjr : j < d.next[n].length := by omega
          simp [Au.stp, this, hj, hnl, List.getD, List.getElem?_eq_getElem hjr]
        have hjr : j < d.next[n].length := by omega
        refine hC.vc [] 60 ?_
        simp [hj0, h0, hnl, hl1, hl2, hl3, hst, hil, hq, hjr]
      · have hl1 : (d.next.length : Int) ≤ n := by omega
        have hst : d.stp n a = -1 := by
          have : ¬ (n : Int) < 0 := by omega
          simp [Au.stp, this, List.getElem?_eq_none (Nat.not_lt.1 hnl)]
        have hnl' : d.next.length ≤ n := by omega
        refine hC.vc [] 60 ?_
        simp [hj0, h0, hnl, hnl', hl1, hst]
  · have hst := stp_not d s ha hr
    refine hC.vc [] 60 ?_
    simp [ixG_not ha, hst]
theorem acc_neg (d : Au) {s : Int} (h : ¬ 0 ≤ s) : d.acc s = false := by simp [Au.acc, h]
theorem acc_in (d : Au) {n : Nat} (h : n < d.final.length) : d.acc n = d.final[n] := by
  have : (0 : Int) ≤ n := by omega
  simp [Au.acc, this, List.getD, List.getElem?_eq_getElem h]
theorem acc_out (d : Au) {n : Nat} (h : ¬ n < d.final.length) : d.acc n = false := by
  simp [Au.acc, List.getD, List.getElem?_eq_none (Nat.not_lt.1 h)]
set_option maxRecDepth 20000 in
theorem h100 (Gl : Granted) (d : Au) (s : Int) : Fun Tryz.prog Gl 100 [d.av, vI s] [] (vB (d.acc s)) [] := by
  refine fun_of (T := T5) (n := 21) (rs := [.tmp 4]) Tryz.func100 (by kernel_rfl) rfl rfl rfl tok5 mixed (by simp) fun C hC => ?_
  by_cases h0 : 0 ≤ s
  · obtain ⟨n, hn⟩ : ∃ n : Nat, s = n := ⟨s.toNat, by omega⟩
    subst hn
    by_cases h : n < d.final.length
    · have hI : (n : Int) < d.final.length := by omega
      refine hC.vc [] 60 ?_
      simp [Au.av, Au.cells, h, hI, acc_in d h]
    · have hI : ¬ (n : Int) < d.final.length := by omega
      refine hC.vc [] 60 ?_
      simp [Au.av, Au.cells, h, hI, acc_out d h]
  · refine hC.vc [] 60 ?_
    simp [Au.av, Au.cells, h0, acc_neg d h0]
set_option maxRecDepth 20000 in
theorem h19 (Gl : Granted) (d : Au) (hr : ∀ r ∈ d.next, r.length = d.names.length) (w : List ByteArray) : Fun Tryz.prog Gl 19 [d.av, .pv (namesV w)] [] (vB (d.acc (d.run 0 w))) [] := by
  refine fun_of (T := T5) (n := 35) (rs := [.tmp 4]) Tryz.func19 (by kernel_rfl) rfl rfl rfl tok5 mixed (by simp) fun C hC => ?_
  refine hC.vc [] 60 ?_
  simp [Au.av, Au.cells]
  refine go_len 1 1 (w.map fun s => [.val (.string s)]) (by simp) fun hlen => ?_
  rw [List.length_map] at hlen
  refine go_loop (ι := {x : Nat × Int // x.1 ≤ w.length ∧ d.run 0 w = d.run x.2 (w.drop x.1)}) (fun x => ⟨[(2, .ptr (.loc 2) 0), (5, vI x.1.2), (8, .pv (namesV w)), (9, vI w.length), (10, vI x.1.1)], [(.loc 2, some (.box 31 d.cells))]⟩) (fun x => w.length - x.1.1) ⟨(0, 0), by simp⟩ [] (by simp [Au.cells]) fun x ih => ?_
  obtain ⟨⟨i, s⟩, hi, hn⟩ := x
  simp only at hi hn ih
  by_cases hlt : i < w.length
  · have hw := wr64 ((i : Int) + 1) (by omega)
    rw [List.drop_eq_getElem_cons hlt, run_cons] at hn
    refine hC.vc [] 60 ?_
    simp [hlt, Au.cells]
    refine hC.call [] (h18 Gl d hr s w[i]) (by simp [Au.av, Au.cells]) ?_
    refine hC.vc [] 60 ?_
    simp
    exact go_to [] (ih ⟨(i + 1, d.stp s w[i]), hlt, hn⟩ (by simp; omega)) (by simp [hw, Au.cells])
  · rw [List.drop_eq_nil_of_le (by omega), run_nil] at hn
    by_cases h0 : 0 ≤ s
    · obtain ⟨n, hs⟩ : ∃ n : Nat, s = n := ⟨s.toNat, by omega⟩
      subst hs
      by_cases h : n < d.final.length
      · have hI : (n : Int) < d.final.length := by omega
        refine hC.vc [] 60 ?_
        simp [hlt, hn, Au.cells, h, hI, acc_in d h]
      · have hI : ¬ (n : Int) < d.final.length := by omega
        refine hC.vc [] 60 ?_
        simp [hlt, hn, Au.cells, h, hI, acc_out d h]
    · refine hC.vc [] 60 ?_
      simp [hlt, hn, Au.cells, h0, acc_neg d h0]
set_option maxRecDepth 20000 in
theorem h23 (Gl : Granted) (l k : List ByteArray) : Fun Tryz.prog Gl 23 [.pv (namesV l), .pv (namesV k)] [] (vB (decide (l = k))) [] := by
  refine fun_of (T := T5) (n := 26) (rs := [.tmp 4]) Tryz.func23 (by kernel_rfl) rfl rfl rfl tok5 mixed (by simp) fun C hC => ?_
  refine hC.vc [] 60 ?_
  by_cases hl : (l.length : Int) = k.length
  · have hl' : l.length = k.length := by omega
    simp [hl]
    refine go_len 0 1 (l.map fun z => [.val (.string z)]) (by simp) fun hlen => ?_
    rw [List.length_map] at hlen
    refine go_loop (ι := {i : Nat // i ≤ l.length ∧ l.take i = k.take i}) (fun x => ⟨[(0, .pv (namesV l)), (1, .pv (namesV k)), (5, vI x.1)], []⟩) (fun x => l.length - x.1) ⟨0, by simp⟩ [] (by simp) fun x ih => ?_
    obtain ⟨i, hi, hn⟩ := x
    simp only at hi hn ih
    refine hC.vc [] 60 ?_
    by_cases hlt : i < l.length
    · have hlt' : i < k.length := by omega
      have hw := wr64 ((i : Int) + 1) (by omega)
      simp [hlt, hlt', hl']
      by_cases he : l[i] = k[i]
      · simp [hlt, hlt', he]
        exact go_to [] (ih ⟨i + 1, hlt, by rw [List.take_add_one, List.take_add_one, hn, List.getElem?_eq_getElem hlt, List.getElem?_eq_getElem hlt', he]⟩ (by simp; omega)) (by simp [hw])
      · have : ¬ l = k := fun e => he (by subst e; rfl)
        simp [hlt, hlt', he, this]
    · rw [List.take_of_length_le (by omega), List.take_of_length_le (by omega)] at hn
      have h2 : ¬ i < k.length := by omega
      simp [hlt, h2, hn]
  · have : ¬ l = k := fun e => hl (by rw [e])
    simp [hl, this]
set_option maxRecDepth 20000 in
theorem h63 (Gl : Granted) (l k : List ByteArray) : Fun Tryz.prog Gl 63 [.pv (namesV l), .pv (namesV k)] [] (vB (decide (l = k))) [] := by
  refine fun_of (T := T5) (n := 26) (rs := [.tmp 4]) Tryz.func63 (by kernel_rfl) rfl rfl rfl tok5 mixed (by simp) fun C hC => ?_
  refine hC.vc [] 60 ?_
  by_cases hl : (l.length : Int) = k.length
  · have hl' : l.length = k.length := by omega
    simp [hl]
    refine go_len 0 1 (l.map fun z => [.val (.string z)]) (by simp) fun hlen => ?_
    rw [List.length_map] at hlen
    refine go_loop (ι := {i : Nat // i ≤ l.length ∧ l.take i = k.take i}) (fun x => ⟨[(0, .pv (namesV l)), (1, .pv (namesV k)), (12, vI l.length), (13, vI x.1)], []⟩) (fun x => l.length - x.1) ⟨0, by simp⟩ [] (by simp [hl]) fun x ih => ?_
    obtain ⟨i, hi, hn⟩ := x
    simp only at hi hn ih
    refine hC.vc [] 60 ?_
    by_cases hlt : i < l.length
    · have hlt' : i < k.length := by omega
      have hw := wr64 ((i : Int) + 1) (by omega)
      simp [hlt, hlt', hl']
      by_cases he : l[i] = k[i]
      · simp [hlt, hlt', he]
        exact go_to [] (ih ⟨i + 1, hlt, by rw [List.take_add_one, List.take_add_one, hn, List.getElem?_eq_getElem hlt, List.getElem?_eq_getElem hlt', he]⟩ (by simp; omega)) (by simp [hw, hl])
      · have : ¬ l = k := fun e => he (by subst e; rfl)
        simp [hlt, hlt', he, this]
    · rw [List.take_of_length_le (by omega), List.take_of_length_le (by omega)] at hn
      have h2 : ¬ i < k.length := by omega
      simp [hlt, h2, hn]
  · have : ¬ l = k := fun e => hl (by rw [e])
    simp [hl, this]
end Go.Proofs.D
