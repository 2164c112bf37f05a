/-
  NODES AND COMPLEMENTS, as the program has them.
-/
import Derived.Test.YtdlnenkemolnlaaGreatDoorD24
import Derived.Test.YtdlnenkemolnlaaGreatDoorQ4
import Derived.Test.YtdlnenkemolnlaaGreatDoorAbsY
set_option linter.unusedVariables false
set_option linter.unusedSimpArgs false
namespace Go.Proofs.D
open Go Go.Abs
def T3 : TT := (87, ⟨true, 5, 104, [.val (.string ⟨#[]⟩), .val (.string ⟨#[]⟩), .nilS 1, .nilS 2, .nilS 5], .str [(0, 9), (1, 9), (2, 40), (3, 85), (4, 76)]⟩) ::
  (76, ⟨false, 1, 24, [.nilS 5], .slice 87⟩) ::
  (136, ⟨true, 2, 32, [.val (.string ⟨#[]⟩), .val (.string ⟨#[]⟩)], .str [(0, 9), (1, 9)]⟩) ::
  (85, ⟨false, 1, 24, [.nilS 2], .slice 136⟩) ::
  (91, ⟨true, 2, 32, [.val (.pointer none), .nilS 1], .str [(0, 88), (1, 89)]⟩) ::
  (78, ⟨true, 3, 48, [.val (.bool false), .val (.string ⟨#[]⟩), .nilS 5], .str [(0, 4), (1, 9), (2, 76)]⟩) ::
  (80, ⟨false, 1, 24, [.nilS 3], .slice 78⟩) ::
  (23, ⟨false, 1, 24, [.nilS 1], .slice 80⟩) ::
  (88, ⟨false, 1, 8, [.val (.pointer none)], .other⟩) ::
  (113, ⟨false, 1, 8, [.val .nilFunc], .other⟩) ::
  (83, ⟨true, 6, 104, [.val (.int .u8 0), .val (.string ⟨#[]⟩), .val (.string ⟨#[]⟩), .val (.string ⟨#[]⟩), .nilS 1, .nilS 1], .str [(0, 5), (1, 9), (2, 9), (3, 9), (4, 40), (5, 40)]⟩) ::
  (210, ⟨true, 2, 24, [.val (.string ⟨#[]⟩), .val (.bool false)], .str [(0, 9), (1, 4)]⟩) :: T
theorem tok3 : TOk Tryz.prog T3 :=
  tok_cons (tok1 (z := .agg #[.string ⟨#[]⟩, .string ⟨#[]⟩, .slice none 0 0, .slice none 0 0, .slice none 0 0]) Tryz.isAgg87 (by kernel_rfl) rfl rfl rfl (by decide) ⟨_, Tryz.underlying87, rfl⟩) <|
  tok_cons (tok1 (z := .slice none 0 0) Tryz.isAgg76 (by kernel_rfl) rfl rfl rfl (by decide) Tryz.underlying76) <|
  tok_cons (tok1 (z := .agg #[.string ⟨#[]⟩, .string ⟨#[]⟩]) Tryz.isAgg136 (by kernel_rfl) rfl rfl rfl (by decide) ⟨_, Tryz.underlying136, rfl⟩) <|
  tok_cons (tok1 (z := .slice none 0 0) Tryz.isAgg85 (by kernel_rfl) rfl rfl rfl (by decide) Tryz.underlying85) <|
  tok_cons (tok1 (z := .agg #[.pointer none, .slice none 0 0]) Tryz.isAgg91 (by kernel_rfl) rfl rfl rfl (by decide) ⟨_, Tryz.underlying91, rfl⟩) <|
  tok_cons (tok1 (z := .agg #[.bool false, .string ⟨#[]⟩, .slice none 0 0]) Tryz.isAgg78 (by kernel_rfl) rfl rfl rfl (by decide) ⟨_, Tryz.underlying78, rfl⟩) <|
  tok_cons (tok1 (z := .slice none 0 0) Tryz.isAgg80 (by kernel_rfl) rfl rfl rfl (by decide) Tryz.underlying80) <|
  tok_cons (tok1 (z := .slice none 0 0) Tryz.isAgg23 (by kernel_rfl) rfl rfl rfl (by decide) Tryz.underlying23) <|
  tok_cons (tok1 (z := .pointer none) Tryz.isAgg88 (by kernel_rfl) rfl rfl rfl (by decide) trivial) <|
  tok_cons (tok1 (z := .nilFunc) Tryz.isAgg113 (by kernel_rfl) rfl rfl rfl (by decide) trivial) <|
  tok_cons (tok1 (z := .agg #[.int .u8 0, .string ⟨#[]⟩, .string ⟨#[]⟩, .string ⟨#[]⟩, .slice none 0 0, .slice none 0 0]) Tryz.isAgg83 (by kernel_rfl) rfl rfl rfl (by decide) ⟨_, Tryz.underlying83, rfl⟩) <|
  tok_cons (tok1 (z := .agg #[.string ⟨#[]⟩, .bool false]) Tryz.isAgg210 (by kernel_rfl) rfl rfl rfl (by decide) ⟨_, Tryz.underlying210, rfl⟩) <| tok
abbrev strs (m : List ByteArray) : PV := .ro 1 (m.map fun s => [.val (.string s)])
abbrev pairs (a : List (ByteArray × ByteArray)) : PV := .ro 2 (a.map fun p => [.val (.string p.1), .val (.string p.2)])
def N.pv : N → List PV
  | .mk k t m a kids => [.val (.string k), .val (.string t), strs m, pairs a, .ro 5 (kids.attach.map fun x => x.1.pv)]
termination_by e => SizeOf.sizeOf e
decreasing_by exact N.kids_lt (e := .mk k t m a kids) x.2
abbrev nodes (l : List N) : PV := .ro 5 (l.map N.pv)
theorem N.pv_eq (n : N) : n.pv = [.val (.string n.kind), .val (.string n.text), strs n.marks, pairs n.attrs, nodes n.kids] := by
  cases n; simp [N.pv, N.kind, N.text, N.marks, N.attrs, N.kids]
def N.cells (n : N) : List AV := [vS n.kind, vS n.text, .pv (strs n.marks), .pv (pairs n.attrs), .pv (nodes n.kids)]
def N.av (n : N) : AV := .agg n.cells
def Ent.pv (e : Ent) : List PV := [.val (.bool e.has), .val (.string e.value), nodes e.rest]
def Ent.cells (e : Ent) : List AV := [vB e.has, vS e.value, .pv (nodes e.rest)]
def Ent.av (e : Ent) : AV := .agg e.cells
abbrev slot (l : List Ent) : PV := .ro 3 (l.map Ent.pv)
abbrev comp (c : Cm) : PV := .ro 1 (c.map fun l => [slot l])
/-- No text is longer than the form reaches. -/
abbrev M47 : Nat := 140737488355328
def N.small : N → Prop
  | .mk k t m a kids => k.size ≤ M47 ∧ t.size ≤ M47 ∧ (∀ s ∈ m, s.size ≤ M47) ∧ (∀ p ∈ a, p.1.size ≤ M47 ∧ p.2.size ≤ M47) ∧ go kids
where go : List N → Prop
  | [] => True
  | k :: l => k.small ∧ go l
theorem small_go : ∀ {l : List N}, N.small.go l ↔ ∀ x ∈ l, x.small
  | [] => by simp [N.small.go]
  | x :: l => by simp [N.small.go, small_go (l := l)]
theorem N.small_eq (n : N) : n.small ↔ n.kind.size ≤ M47 ∧ n.text.size ≤ M47 ∧ (∀ s ∈ n.marks, s.size ≤ M47) ∧ (∀ p ∈ n.attrs, p.1.size ≤ M47 ∧ p.2.size ≤ M47) ∧ ∀ x ∈ n.kids, x.small := by
  obtain ⟨k, t, m, a, l⟩ := n
  simp only [N.small, small_go]
  rfl
end Go.Proofs.D
/-
  ARE TWO ONE?
-/
set_option linter.unusedVariables false
set_option linter.unusedSimpArgs false
namespace Go.Proofs.D
open Go Go.Abs Go.RowKit
attribute [local simp] VC VCS stepVS stepTopS firstId memN bigB unmark markT mkOff calmP keepT boundB stepV stepTop stepReg stepOp stMove stPick stBin stUn stConv stBox stAlloc stLoad stStore stFieldAddr stField stExtract stNilCheck stMakeFunc stIndexAddr stIndex stLen
  stBuild placesOf fillA stBuildSlice sliceCells repL chunks allPV toPV drawOk drawOk.go mayMakeO mayMake1 disjoint pairOk Oper.apart Oper.looksAt Op.operands Call.operands Region.binds stAppend appBase appTail unName stSlice bndA
  LS.ev LS.get LS.blk LS.put LS.app LS.upd lkS lkH setS setH Nm.eqb guardOf nexts okPair dstOk AV.cellsOf takeAt putAt lkT sliceE fieldT intK isStrT isBoolT abin newOk LS.freshB LS.freshB.go LS.freshB.goH notIn AV.ments AV.ments.mentsL Blk.ments makes upsMents LS.start startL exitTo T T3 outs callSideO callSideD upsR backO freshAll argB onlyIO List.map List.append List.nil_append List.cons_append Nat.blt
  conv convS convH srcs srcOf blkOk leA leA.leL Go.Abs.leB leP laid laidM laidG isArg subH retP resAV resL res1 AV.frz AV.frz.frzL evL AV.ren AV.ren.renL Blk.ren renBs blksOf allSome nodupB onlyArgs blksMents callUps keyed inName inName.go backName callSide
theorem dec_drop {α : Type} [DecidableEq α] {l m : List α} {i : Nat} (h1 : i < l.length) (h2 : i < m.length) : decide (l.drop i = m.drop i) = (decide (l[i] = m[i]) && decide (l.drop (i + 1) = m.drop (i + 1))) := by
  rw [List.drop_eq_getElem_cons h1, List.drop_eq_getElem_cons h2, Bool.eq_iff_iff]
  simp only [decide_eq_true_eq, Bool.and_eq_true, List.cons.injEq]
theorem dec_len {α : Type} [DecidableEq α] {l m : List α} (h : ¬ (l.length : Int) = m.length) : decide (l = m) = false := by
  rw [decide_eq_false_iff_not]
  intro e
  subst e
  exact h rfl
theorem dec_end {α : Type} [DecidableEq α] {l m : List α} {i : Nat} (h1 : l.length ≤ i) (h2 : m.length ≤ i) : decide (l.drop i = m.drop i) = true := by
  rw [List.drop_eq_nil_of_le h1, List.drop_eq_nil_of_le h2]; simp
theorem f70 (Gl : Granted) (l m : List ByteArray) : Fun Tryz.prog Gl 89 [.pv (strs l), .pv (strs m)] [] (vB (decide (l = m))) [] := by
  refine fun_of (T := T3) (n := 26) (rs := [.tmp 4]) Tryz.func89 (by kernel_rfl) rfl rfl rfl tok3 mixed (by simp) fun C hC => ?_
  by_cases h3 : (l.length : Int) = m.length
  · have h3' : l.length = m.length := by omega
    refine hC.vc [] 60 ?_
    simp [h3]
    refine go_len 0 1 (l.map fun s => [.val (.string s)]) (by simp) fun hk => ?_
    rw [List.length_map] at hk
    refine go_loop (ι := {i : Nat // i ≤ l.length ∧ decide (l = m) = decide (l.drop i = m.drop i)}) (fun x => ⟨[(0, .pv (strs l)), (1, .pv (strs m)), (12, vI m.length), (13, vI x.1)], []⟩)
      (fun x => l.length - x.1) ⟨0, by simp⟩ [] (by simp) fun x ih => ?_
    obtain ⟨i, hi, hn⟩ := x
    simp only at hi hn ih
    refine hC.vc [] 60 ?_
    by_cases hlt : i < m.length
    · have hlt' : i < l.length := by omega
      rw [dec_drop hlt' hlt] at hn
      have hw := wr64 ((i : Int) + 1) (by omega)
      by_cases he : l[i] = m[i]
      · simp [hlt, hlt', he]
        refine go_to [] (ih ⟨i + 1, hlt', by rw [hn, he]; simp⟩ (by simp; omega)) (by simp [hw])
      · simp [hlt, hlt', he, hn]
    · rw [dec_end (by omega) (by omega)] at hn
      simp [hlt, hn]
  · refine hC.vc [] 60 ?_
    simp [h3, dec_len h3]
theorem attr_cmp {x y : Operand} (a b c d : ByteArray) (w : World) : (eqGuard .neq 136 x y (.agg #[.string a, .string b]) (.agg #[.string c, .string d])).run Tryz.prog w = .ok () w ∧ (binOp .neq 136 (.agg #[.string a, .string b]) (.agg #[.string c, .string d])).run Tryz.prog w = .ok (.bool (!decide ((a, b) = (c, d)))) w := by
  refine ⟨run_eqGuard_agg w .neq 136 x y _ _ (by kernel_rfl), ?_⟩
  rw [run_neq_struct w 136, run_equalIn_agg w 9999 136 _ _ (by unfold Program.fieldsOf; rw [Tryz.underlying136]) (by kernel_rfl)]
  have hf : (Tryz.prog.fieldsOf 136).toList = [⟨"Name", 9, 0, false, "", "", 0⟩, ⟨"Value", 9, 1, false, "", "", 16⟩] := by unfold Program.fieldsOf; rw [Tryz.underlying136]
  have hp : ∀ (xs : Array Value) (off : Nat) (v : Value), xs[off]? = some v → (part 9 xs off).run Tryz.prog w = .ok v w := fun xs off v h => by
    simp [part, Tryz.isAgg9 w, h]
  rw [hf]
  simp [Op.eqFields, hp _ 0 (.string a), hp _ 0 (.string c), hp _ 1 (.string b), hp _ 1 (.string d), run_equalIn_string w 9998 9 _ _ Tryz.underlying9, beq_toList]
  by_cases h1 : a = c <;> by_cases h2 : b = d <;> simp [h1, h2]
theorem f71 (Gl : Granted) (l m : List (ByteArray × ByteArray)) : Fun Tryz.prog Gl 90 [.pv (pairs l), .pv (pairs m)] [] (vB (decide (l = m))) [] := by
  refine fun_of (T := T3) (n := 26) (rs := [.tmp 4]) Tryz.func90 (by kernel_rfl) rfl rfl rfl tok3 mixed (by simp) fun C hC => ?_
  by_cases h3 : (l.length : Int) = m.length
  · have h3' : l.length = m.length := by omega
    refine hC.vc [] 60 ?_
    simp [h3]
    refine go_len 0 2 (l.map fun p => [.val (.string p.1), .val (.string p.2)]) (by simp) fun hk => ?_
    rw [List.length_map] at hk
    refine go_loop (ι := {i : Nat // i ≤ l.length ∧ decide (l = m) = decide (l.drop i = m.drop i)}) (fun x => ⟨[(0, .pv (pairs l)), (1, .pv (pairs m)), (12, vI m.length), (13, vI x.1)], []⟩)
      (fun x => l.length - x.1) ⟨0, by simp⟩ [] (by simp) fun x ih => ?_
    obtain ⟨i, hi, hn⟩ := x
    simp only at hi hn ih
    refine hC.vc [] 60 ?_
    by_cases hlt : i < m.length
    · have hlt' : i < l.length := by omega
      rw [dec_drop hlt' hlt] at hn
      have hw := wr64 ((i : Int) + 1) (by omega)
      simp [hlt, hlt']
      refine hC.neqAgg (a := l[i].1) (b := l[i].2) (c := m[i].1) (d := m[i].2) (fun w => attr_cmp _ _ _ _ w) rfl (by simp) ?_
      refine hC.vc [] 60 ?_
      by_cases he : l[i] = m[i]
      · have he' : (l[i].1, l[i].2) = (m[i].1, m[i].2) := by rw [he]
        simp only [he', decide_true, Bool.not_true]
        simp
        refine go_to [] (ih ⟨i + 1, hlt', by rw [hn, he]; simp⟩ (by simp; omega)) (by simp [hw])
      · have he' : ¬ (l[i].1, l[i].2) = (m[i].1, m[i].2) := fun e => he (by simpa [Prod.ext_iff] using e)
        simp only [he', decide_false, Bool.not_false]
        simp [hn, he]
    · rw [dec_end (by omega) (by omega)] at hn
      simp [hlt, hn]
  · refine hC.vc [] 60 ?_
    simp [h3, dec_len h3]
/-- slices.EqualFunc of nodes, by a function that tells whether two are one. -/
theorem f42 (Gl : Granted) (l m : List N) (hf : ∀ x ∈ l, ∀ y : N, Fun Tryz.prog Gl 48 [x.av, y.av] [] (vB (decide (x = y))) []) : Fun Tryz.prog Gl 47 [.pv (nodes l), .pv (nodes m), .fn (.func 48) [] []] [] (vB (decide (l = m))) [] := by
  refine fun_of (T := T3) (n := 32) (rs := [.tmp 6]) Tryz.func47 (by kernel_rfl) rfl rfl rfl tok3 mixed (by simp) fun C hC => ?_
  by_cases h3 : (l.length : Int) = m.length
  · have h3' : l.length = m.length := by omega
    refine hC.vc [] 60 ?_
    simp [h3]
    refine go_len 0 5 (l.map N.pv) (by simp) fun hk => ?_
    rw [List.length_map] at hk
    refine go_loop (ι := {i : Nat // i ≤ l.length ∧ decide (l = m) = decide (l.drop i = m.drop i)}) (fun x => ⟨[(15, .pv (nodes l)), (1, .pv (nodes m)), (2, .fn (.func 48) [] []), (16, vI m.length), (17, vI x.1)], []⟩)
      (fun x => l.length - x.1) ⟨0, by simp⟩ [] (by simp) fun x ih => ?_
    obtain ⟨i, hi, hn⟩ := x
    simp only at hi hn ih
    refine hC.vc [] 60 ?_
    by_cases hlt : i < m.length
    · have hlt' : i < l.length := by omega
      rw [dec_drop hlt' hlt] at hn
      have hw := wr64 ((i : Int) + 1) (by omega)
      simp [hlt, hlt', N.pv_eq]
      refine hC.call [] (hf l[i] (by simp) m[i]) (by simp [N.av, N.cells]) ?_
      refine hC.vc [] 60 ?_
      cases he : decide (l[i] = m[i]) with
      | true =>
        rw [he, Bool.true_and] at hn
        simp
        exact go_to [] (ih ⟨i + 1, hlt', hn⟩ (by simp; omega)) (by simp [hw])
      | false =>
        rw [he, Bool.false_and] at hn
        simp [hn]
    · rw [dec_end (by omega) (by omega)] at hn
      simp [hlt, hn]
  · refine hC.vc [] 60 ?_
    simp [h3, dec_len h3]
theorem N.dec (a b : N) : decide (a = b) = (decide (a.kind = b.kind) && decide (a.text = b.text) && decide (a.marks = b.marks) && decide (a.attrs = b.attrs) && decide (a.kids = b.kids)) := by
  rw [Bool.eq_iff_iff]
  simp only [Bool.and_eq_true, decide_eq_true_eq]
  constructor
  · intro h; subst h; simp
  · rintro ⟨⟨⟨⟨h1, h2⟩, h3⟩, h4⟩, h5⟩; exact N.ext h1 h2 h3 h4 h5
set_option maxRecDepth 20000 in
theorem f43 (Gl : Granted) (a b : N) : Fun Tryz.prog Gl 48 [a.av, b.av] [] (vB (decide (a = b))) [] := by
  have hk : ∀ x ∈ a.kids, ∀ y : N, Fun Tryz.prog Gl 48 [x.av, y.av] [] (vB (decide (x = y))) [] := fun x hx y => f43 Gl x y
  have hd := N.dec a b
  refine fun_of (T := T3) (n := 38) (rs := [.tmp 4]) Tryz.func48 (by kernel_rfl) rfl rfl rfl tok3 mixed (by simp) fun C hC => ?_
  by_cases h1 : a.kind = b.kind
  · by_cases h2 : a.text = b.text
    · simp only [h1, h2, decide_true, Bool.true_and] at hd
      refine hC.vc [] 100 ?_
      simp [N.av, N.cells, h1, h2]
      refine hC.call [] (f70 Gl a.marks b.marks) (by simp) ?_
      refine hC.vc [] 100 ?_
      cases h3 : decide (a.marks = b.marks) with
      | false =>
        rw [h3] at hd
        simp [hd]
      | true =>
        rw [h3, Bool.true_and] at hd
        simp [N.cells, h1, h2]
        refine hC.call [] (f71 Gl a.attrs b.attrs) (by simp) ?_
        refine hC.vc [] 100 ?_
        cases h4 : decide (a.attrs = b.attrs) with
        | false =>
          rw [h4] at hd
          simp [hd]
        | true =>
          rw [h4, Bool.true_and] at hd
          simp [N.cells, h1, h2]
          refine hC.call [] (f42 Gl a.kids b.kids hk) (by simp) ?_
          refine hC.vc [] 100 ?_
          simp [hd]
    · refine hC.vc [] 100 ?_
      simp only [h2, decide_false, Bool.false_and, Bool.and_false] at hd
      simp [N.av, N.cells, h1, h2, hd]
  · refine hC.vc [] 100 ?_
    simp only [h1, decide_false, Bool.false_and] at hd
    simp [N.av, N.cells, h1, hd]
termination_by SizeOf.sizeOf a
decreasing_by exact N.kids_lt hx
theorem Ent.dec (a b : Ent) : decide (a = b) = ((a.has == b.has) && decide (a.value = b.value) && decide (a.rest = b.rest)) := by
  rw [Bool.eq_iff_iff]
  simp only [Bool.and_eq_true, decide_eq_true_eq, beq_iff_eq]
  constructor
  · intro h; subst h; simp
  · rintro ⟨⟨h1, h2⟩, h3⟩; exact Ent.ext' h1 h2 h3
set_option maxRecDepth 20000 in
theorem f41 (Gl : Granted) (a b : Ent) : Fun Tryz.prog Gl 46 [a.av, b.av] [] (vB (decide (a = b))) [] := by
  have hd := Ent.dec a b
  refine fun_of (T := T3) (n := 24) (rs := [.tmp 4]) Tryz.func46 (by kernel_rfl) rfl rfl rfl tok3 mixed (by simp) fun C hC => ?_
  cases h1 : (a.has == b.has) with
  | true =>
    by_cases h2 : a.value = b.value
    · simp only [h1, h2, decide_true, Bool.true_and] at hd
      refine hC.vc [] 100 ?_
      simp [Ent.av, Ent.cells, h1, h2]
      refine hC.call [] (f42 Gl a.rest b.rest fun x _ y => f43 Gl x y) (by simp) ?_
      refine hC.vc [] 100 ?_
      simp [hd]
    · refine hC.vc [] 100 ?_
      simp only [h2, decide_false, Bool.false_and, Bool.and_false] at hd
      simp [Ent.av, Ent.cells, h1, h2, hd]
  | false =>
    refine hC.vc [] 100 ?_
    simp only [h1, Bool.false_and] at hd
    simp [Ent.av, Ent.cells, h1, hd]
theorem Ent.pv_eq (e : Ent) : e.pv = [.val (.bool e.has), .val (.string e.value), nodes e.rest] := rfl
theorem f46 (Gl : Granted) (l m : List Ent) : Fun Tryz.prog Gl 51 [.pv (slot l), .pv (slot m), .fn (.func 46) [] []] [] (vB (decide (l = m))) [] := by
  refine fun_of (T := T3) (n := 32) (rs := [.tmp 6]) Tryz.func51 (by kernel_rfl) rfl rfl rfl tok3 mixed (by simp) fun C hC => ?_
  by_cases h3 : (l.length : Int) = m.length
  · have h3' : l.length = m.length := by omega
    refine hC.vc [] 60 ?_
    simp [h3]
    refine go_len 0 3 (l.map Ent.pv) (by simp) fun hk => ?_
    rw [List.length_map] at hk
    refine go_loop (ι := {i : Nat // i ≤ l.length ∧ decide (l = m) = decide (l.drop i = m.drop i)}) (fun x => ⟨[(15, .pv (slot l)), (1, .pv (slot m)), (2, .fn (.func 46) [] []), (16, vI m.length), (17, vI x.1)], []⟩)
      (fun x => l.length - x.1) ⟨0, by simp⟩ [] (by simp) fun x ih => ?_
    obtain ⟨i, hi, hn⟩ := x
    simp only at hi hn ih
    refine hC.vc [] 60 ?_
    by_cases hlt : i < m.length
    · have hlt' : i < l.length := by omega
      rw [dec_drop hlt' hlt] at hn
      have hw := wr64 ((i : Int) + 1) (by omega)
      simp [hlt, hlt', Ent.pv_eq]
      refine hC.call [] (f41 Gl l[i] m[i]) (by simp [Ent.av, Ent.cells]) ?_
      refine hC.vc [] 60 ?_
      cases he : decide (l[i] = m[i]) with
      | true =>
        rw [he, Bool.true_and] at hn
        simp
        exact go_to [] (ih ⟨i + 1, hlt', hn⟩ (by simp; omega)) (by simp [hw])
      | false =>
        rw [he, Bool.false_and] at hn
        simp [hn]
    · rw [dec_end (by omega) (by omega)] at hn
      simp [hlt, hn]
  · refine hC.vc [] 60 ?_
    simp [h3, dec_len h3]
abbrev eqBox : Blk := .box 113 [.fn (.func 46) [] []]
theorem f45 (Gl : Granted) (l m : List Ent) : Fun Tryz.prog Gl 50 [.pv (slot l), .pv (slot m), .ptr (.arg 0) 0] [some eqBox] (vB (decide (l = m))) [some eqBox] := by
  refine fun_of (T := T3) (n := 10) (rs := [.tmp 5]) Tryz.func50 (by kernel_rfl) rfl rfl rfl tok3 mixed (by simp) fun C hC => ?_
  refine hC.vc [] 60 ?_
  simp
  refine hC.call [] (f46 Gl l m) (by simp) ?_
  refine hC.vc [] 60 ?_
  simp
theorem f44 (Gl : Granted) (l m : Cm) : Fun Tryz.prog Gl 49 [.pv (comp l), .pv (comp m), .fn (.func 50) [] [.ptr (.arg 0) 0]] [some eqBox] (vB (decide (l = m))) [some eqBox] := by
  refine fun_of (T := T3) (n := 32) (rs := [.tmp 6]) Tryz.func49 (by kernel_rfl) rfl rfl rfl tok3 mixed (by simp) fun C hC => ?_
  by_cases h3 : (l.length : Int) = m.length
  · have h3' : l.length = m.length := by omega
    refine hC.vc [] 60 ?_
    simp [h3]
    refine go_len 0 1 (l.map fun l => [slot l]) (by simp) fun hk => ?_
    rw [List.length_map] at hk
    refine go_loop (ι := {i : Nat // i ≤ l.length ∧ decide (l = m) = decide (l.drop i = m.drop i)}) (fun x => ⟨[(15, .pv (comp l)), (1, .pv (comp m)), (2, .fn (.func 50) [] [.ptr (.arg 0) 0]), (16, vI m.length), (17, vI x.1)], [(.arg 0, some eqBox)]⟩)
      (fun x => l.length - x.1) ⟨0, by simp⟩ [] (by simp) fun x ih => ?_
    obtain ⟨i, hi, hn⟩ := x
    simp only at hi hn ih
    refine hC.vc [] 60 ?_
    by_cases hlt : i < m.length
    · have hlt' : i < l.length := by omega
      rw [dec_drop hlt' hlt] at hn
      have hw := wr64 ((i : Int) + 1) (by omega)
      simp [hlt, hlt']
      refine hC.call [.arg 0] (f45 Gl l[i] m[i]) (by simp) ?_
      refine hC.vc [] 60 ?_
      cases he : decide (l[i] = m[i]) with
      | true =>
        rw [he, Bool.true_and] at hn
        simp
        exact go_to [] (ih ⟨i + 1, hlt', hn⟩ (by simp; omega)) (by simp [hw])
      | false =>
        rw [he, Bool.false_and] at hn
        simp [hn]
    · rw [dec_end (by omega) (by omega)] at hn
      simp [hlt, hn]
  · refine hC.vc [] 60 ?_
    simp [h3, dec_len h3]
theorem f24 (Gl : Granted) (l m : Cm) : Fun Tryz.prog Gl 15 [.pv (comp l), .pv (comp m)] [] (vB (decide (l = m))) [] := by
  refine fun_of (T := T3) (n := 10) (rs := [.tmp 4]) Tryz.func15 (by kernel_rfl) rfl rfl rfl tok3 mixed (by simp) fun C hC => ?_
  refine hC.vc [] 60 ?_
  simp
  refine hC.call [.loc 5] (f44 Gl l m) (by simp) ?_
  refine hC.vc [] 60 ?_
  simp
end Go.Proofs.D
