/-
  WHETHER TWO EXPRESSIONS MEAN THE SAME, by their dfas; the law DfaOrder.
-/
import Derived.Test.YtciibpfhjfegnaaGreatDoorG12
import Derived.Test.YtciibpfhjfegnaaGreatDoorH24
import Derived.Test.YtciibpfhjfegnaaGreatDoorH19
import Derived.Test.YtciibpfhjfegnaaGreatDoorG15
set_option linter.unusedVariables false
set_option linter.unusedSimpArgs false
namespace Go.Proofs.D
open Go Go.Abs Go.RowKit
attribute [local simp] VC VCS stepVS stepTopS firstId memN bigB unmark markT mkOff calmP keepT boundB boundC stepV stepTop stepReg stepOp stMove stPick stBin stUn stConv stBox stAlloc stLoad stStore stFieldAddr stField stExtract stNilCheck stMakeFunc stIndexAddr stIndex stLen
  stBuild placesOf fillA stBuildSlice sliceCells repL chunks allPV toPV drawOk drawOk.go mayMakeO mayMake1 disjoint pairS Oper.apart Oper.looksAt Op.operands Call.operands Region.binds stAppend appBase appTail unName stSlice bndA
  LS.ev LS.get LS.blk LS.put LS.app LS.upd lkS lkH setS setH Nm.eqb guardOf nexts okPair dstOk AV.cellsOf takeAt putAt lkT sliceE fieldT intK isStrT isBoolT abin newOk LS.freshB LS.freshB.go LS.freshB.goH notIn AV.ments AV.ments.mentsL Blk.ments makes upsMents LS.start startL exitTo T T5 outs callSideR callSideO callSideD upsR backO freshAll argB onlyIO List.map List.append List.nil_append List.cons_append Nat.blt
  conv convS convH srcs srcOf blkOk leA leA.leL Go.Abs.leB leP laid laidM laidG isArg subH retP resAV resL res1 AV.frz AV.frz.frzL evL AV.ren AV.ren.renL Blk.ren renBs blksOf allSome nodupB onlyArgs blksMents callUps keyed inName inName.go backName callSide
open Classical in
noncomputable def sameB (e f : E) : Bool := decide (∀ w, e.L w ↔ f.L w)
open Classical in
noncomputable def withB (e f : E) : Bool := decide (∀ w, e.L w → f.L w)
open Classical in
theorem apart_same (e f : E) : (!(apartR e f true).2) = sameB e f := by
  cases h : (apartR e f true).2 with
  | false =>
    have := apartR_false h
    refine (decide_eq_true fun w => ?_).symm
    have := this w
    unfold Dif at this
    constructor
    · intro h1; exact Classical.byContradiction fun h2 => this (.inl ⟨h1, h2⟩)
    · intro h1; exact Classical.byContradiction fun h2 => this (.inr ⟨rfl, h1, h2⟩)
  | true =>
    obtain ⟨w, hw⟩ := apartR_true h
    refine (decide_eq_false fun q => ?_).symm
    rcases hw with ⟨h1, h2⟩ | ⟨_, h1, h2⟩
    · exact h2 ((q w).1 h1)
    · exact h2 ((q w).2 h1)
open Classical in
theorem apart_with (e f : E) : (!(apartR e f false).2) = withB e f := by
  cases h : (apartR e f false).2 with
  | false =>
    have := apartR_false h
    refine (decide_eq_true fun w h1 => ?_).symm
    exact Classical.byContradiction fun h2 => this w (.inl ⟨h1, h2⟩)
  | true =>
    obtain ⟨w, hw⟩ := apartR_true h
    refine (decide_eq_false fun q => ?_).symm
    rcases hw with ⟨h1, h2⟩ | ⟨h0, _⟩
    · exact h2 (q w h1)
    · cases h0
theorem same_within (e f : E) : sameB e f = (withB e f && withB f e) := by
  rw [Bool.eq_iff_iff, Bool.and_eq_true]
  unfold sameB withB
  simp only [decide_eq_true_eq]
  exact ⟨fun h => ⟨fun w => (h w).1, fun w => (h w).2⟩, fun h w => ⟨h.1 w, h.2 w⟩⟩
theorem same_comm (e f : E) : sameB e f = sameB f e := by
  rw [same_within, same_within, Bool.and_comm]
theorem within_trans {e f g : E} (h : withB e f = true) (h' : withB f g = true) : withB e g = true := by
  unfold withB at *
  simp only [decide_eq_true_eq] at *
  exact fun w q => h' w (h w q)
theorem c25 {e f : E} (he : Tame e) (hf : Tame f) : Fun Tryz.prog tab10 25 [e.dfa.av, f.dfa.av] [] (vB (sameB e f)) [] := by
  obtain ⟨l1, m1⟩ := dfa_least he.1 he.2
  obtain ⟨l2, m2⟩ := dfa_least hf.1 hf.2
  rw [← apart_same]
  exact h25 tab10 l1 l2 he.2 hf.2 he.1 hf.1 m1 m2 (dfa_fit he) (dfa_fit hf)
theorem c26 {e f : E} (he : Tame e) (hf : Tame f) : Fun Tryz.prog tab10 26 [e.dfa.av, f.dfa.av] [] (vB (withB e f)) [] := by
  obtain ⟨l1, m1⟩ := dfa_least he.1 he.2
  obtain ⟨l2, m2⟩ := dfa_least hf.1 hf.2
  rw [← apart_with]
  exact h26 tab10 l1 l2 he.2 hf.2 he.1 hf.1 m1 m2 (dfa_fit he) (dfa_fit hf)
theorem c22 {e f : E} (he : Tame e) (hf : Tame f) : Fun Tryz.prog tab10 22 [e.dfa.av, f.dfa.av] [] (.tup [.pv (namesV (apartR e f true).1), vB (apartR e f true).2]) [] := by
  obtain ⟨l1, m1⟩ := dfa_least he.1 he.2
  obtain ⟨l2, m2⟩ := dfa_least hf.1 hf.2
  exact h22 tab10 l1 l2 he.2 hf.2 he.1 hf.1 m1 m2 (dfa_fit he) (dfa_fit hf)
theorem c17 {e : E} (hs : e.small) (hc : e.cnt ≤ 1000000000) (hr : e.right = true) : Fun Tryz.prog tab10 17 [e.av] [] (.tup [e.dfa.av, vI 0]) [] := by
  have := h17 e hs hc
  rwa [show e.dfaOf = .tup [e.dfa.av, vI 0] by rw [E.dfaOf, if_pos hr]] at this
attribute [local simp] T6
set_option maxRecDepth 20000 in
set_option maxHeartbeats 4000000 in
theorem h7 (e : E) (hs : e.small) (hc : e.cnt ≤ 1000000000) (f : E) (hsf : f.small) (hcf : f.cnt ≤ 1000000000) (g : E) (hsg : g.small) (hcg : g.cnt ≤ 1000000000) : Fun Tryz.prog tab10 7 [e.av, f.av, g.av] [] (vB true) [] := by
  have hof := @c17 e hs hc
  have hofF := @c17 f hsf hcf
  have hofG := @c17 g hsg hcg
  refine fun_of (T := T5) (n := 84) (rs := [.tmp 6]) Tryz.func7 (by kernel_rfl) rfl rfl rfl tok5 mixed (by simp) fun C hC => ?_
  refine hC.go [] 60 ?_
  simp [E.av, E.cells]
  refine hC.call [] h15 (by simp) ?_
  refine hC.go [] 60 ?_
  simp
  refine hC.call [] (f18 tab10 e hs) (by simp [E.av, E.cells]) ?_
  cases hr : e.right with
  | false =>
    refine hC.go [] 60 ?_
    simp
  | true =>
    refine hC.go [] 60 ?_
    simp
    refine hC.call [] (f18 tab10 f hsf) (by simp [E.av, E.cells]) ?_
    cases hrf : f.right with
    | false =>
      refine hC.go [] 60 ?_
      simp
    | true =>
      refine hC.go [] 60 ?_
      simp
      refine hC.call [] (f18 tab10 g hsg) (by simp [E.av, E.cells]) ?_
      cases hrg : g.right with
      | false =>
        refine hC.go [] 60 ?_
        simp
      | true =>
        have he := right_tame hr hc
        have hf := right_tame hrf hcf
        have hg := right_tame hrg hcg
        replace hof := hof hr
        replace hofF := hofF hrf
        replace hofG := hofG hrg
        have sab := c25 he hf
        have wab := c26 he hf
        have wba := c26 hf he
        have sba := c25 hf he
        have wbc := c26 hf hg
        have wac := c26 he hg
        have p1 := same_within e f
        have p2 := same_comm e f
        have p3 : withB e f = true → withB f g = true → withB e g = true := fun h h' => within_trans h h'
        generalize sameB e f = Sab at sab p1 p2
        generalize sameB f e = Sba at sba p2
        generalize withB e f = Wab at wab p1 p3
        generalize withB f e = Wba at wba p1
        generalize withB f g = Wbc at wbc p3
        generalize withB e g = Wac at wac p3
        generalize e.dfa = a at *
        generalize f.dfa = b at *
        generalize g.dfa = c at *
        subst p2
        subst p1
        refine hC.go [] 60 ?_
        simp
        refine hC.call [] hof (by simp [E.av, E.cells, Au.av, Au.cells]) ?_
        refine hC.go [] 60 ?_
        simp [E.cells, Au.av, Au.cells]
        refine hC.call [] hofF (by simp [E.av, E.cells, Au.av, Au.cells]) ?_
        refine hC.go [] 60 ?_
        simp [E.cells, Au.av, Au.cells]
        refine hC.call [] hofG (by simp [E.av, E.cells, Au.av, Au.cells]) ?_
        refine hC.go [] 60 ?_
        simp [E.cells, Au.av, Au.cells]
        refine hC.drawn (by kernel_rfl) (by simp) ?_
        refine hC.go [] 60 ?_
        simp
        refine hC.call [] sab (by simp [Au.av, Au.cells]) ?_
        refine hC.go [] 60 ?_
        simp
        refine hC.call [] wab (by simp [Au.av, Au.cells]) ?_
        cases Wab with
        | false =>
          refine hC.go [] 60 ?_
          simp
          refine hC.call [] sab (by simp [Au.av, Au.cells]) ?_
          refine hC.go [] 60 ?_
          simp
          refine hC.call [] sba (by simp [Au.av, Au.cells]) ?_
          refine hC.go [] 60 ?_
          simp
          refine hC.call [] wab (by simp [Au.av, Au.cells]) ?_
          refine hC.go [] 60 ?_
          simp
        | true =>
          refine hC.go [] 60 ?_
          simp
          refine hC.call [] wba (by simp [Au.av, Au.cells]) ?_
          all_goals cases Wba
          all_goals
            refine hC.go [] 60 ?_
            simp
            refine hC.call [] sab (by simp [Au.av, Au.cells]) ?_
            refine hC.go [] 60 ?_
            simp
            refine hC.call [] sba (by simp [Au.av, Au.cells]) ?_
            refine hC.go [] 60 ?_
            simp
            refine hC.call [] wab (by simp [Au.av, Au.cells]) ?_
            refine hC.go [] 60 ?_
            simp
            refine hC.call [] wbc (by simp [Au.av, Au.cells]) ?_
            cases Wbc with
            | false =>
              refine hC.go [] 60 ?_
              simp
            | true =>
              refine hC.go [] 60 ?_
              simp
              refine hC.call [] wac (by simp [Au.av, Au.cells]) ?_
              rw [p3 rfl rfl]
              refine hC.go [] 60 ?_
              simp
end Go.Proofs.D
/-
  WHEN TABLES ARE ONE; a star is nothing or a plus.
-/
set_option linter.unusedVariables false
set_option linter.unusedSimpArgs false
namespace Go.Proofs.D
open Go Go.Abs Go.RowKit
theorem same_iff {e f : E} : sameB e f = true ↔ ∀ w, e.L w ↔ f.L w := by
  unfold sameB; simp
theorem sameB_self (e : E) : sameB e e = true := same_iff.2 fun _ => Iff.rfl
theorem same_dfa {e f : E} (he : Tame e) (hf : Tame f) (hn : e.dfa.names = f.dfa.names) : sameB e f = decide (e.dfa.final = f.dfa.final ∧ e.dfa.next = f.dfa.next) := by
  obtain ⟨l1, m1⟩ := dfa_least he.1 he.2
  obtain ⟨l2, m2⟩ := dfa_least hf.1 hf.2
  rw [Bool.eq_iff_iff, decide_eq_true_iff, same_iff]
  constructor
  · intro h
    have := least_one l1 l2 (names_nodup e) hn fun w => by rw [m1, m2, h]
    exact ⟨this.2, this.1⟩
  · rintro ⟨h1, h2⟩ w
    have : e.dfa = f.dfa := by
      cases hd : e.dfa; cases hd' : f.dfa
      rw [hd, hd'] at hn h1 h2
      simp at hn h1 h2
      rw [hn, h1, h2]
    rw [← m1, ← m2, ← sem_has l1.sem.toSem0, ← sem_has l2.sem.toSem0, this]
theorem same_len {e f : E} (he : Tame e) (hf : Tame f) (hn : e.dfa.names = f.dfa.names) (hl : e.dfa.next.length ≠ f.dfa.next.length) : sameB e f = false := by
  rw [same_dfa he hf hn]
  exact decide_eq_false fun h => hl (by rw [h.2])
def starE (e : E) : E := .mk 42 ⟨#[]⟩ [e]
def plusE (e : E) : E := .mk 43 ⟨#[]⟩ [e]
def altE (e : E) : E := .mk 97 ⟨#[]⟩ [.mk 115 ⟨#[]⟩ [], plusE e]
theorem star_same (e : E) : sameB (altE e) (starE e) = true := by
  refine same_iff.2 fun w => ?_
  have hh : E.L.headL [e] = e.L := by funext v; rfl
  have h1 : (starE e).L w ↔ w = [] ∨ Many e.L w := by
    rw [L_eq]
    simp only [starE, E.op, E.kids, hh]
    simp
  have h2 : (plusE e).L w ↔ Many e.L w := by
    rw [L_eq]
    simp only [plusE, E.op, E.kids, hh]
    simp
  have h3 : (E.mk 115 ⟨#[]⟩ []).L w ↔ w = [] := by
    rw [L_eq]
    simp only [E.op, E.kids]
    exact Iff.rfl
  rw [h1, L_eq]
  simp only [altE, E.op, E.kids, E.L.altL, h2, h3]
  simp
theorem star_small {e : E} (h : e.small) : (starE e).small := E.small_mk (by decide) (by simpa using h)
theorem plus_small {e : E} (h : e.small) : (plusE e).small := E.small_mk (by decide) (by simpa using h)
theorem alt_small {e : E} (h : e.small) : (altE e).small := E.small_mk (by decide) (by
  intro k hk
  simp at hk
  rcases hk with rfl | rfl
  · exact E.small_mk (by decide) (by simp)
  · exact plus_small h)
theorem star_cnt (e : E) : (starE e).cnt = e.cnt + 1 := by simp [starE, cnt_eq, E.kids]; omega
theorem alt_cnt (e : E) : (altE e).cnt = e.cnt + 3 := by simp [altE, plusE, cnt_eq, E.kids]; omega
/-- Whether the first ones are one, of rows and of marks of ends. -/
def oneTo (a b : Au) (i : Nat) : Bool := decide (a.final.take i = b.final.take i ∧ a.next.take i = b.next.take i)
theorem take_more {α : Type} {l m : List α} {i : Nat} (hl : i < l.length) (hm : i < m.length) : l.take (i + 1) = m.take (i + 1) ↔ l.take i = m.take i ∧ l[i] = m[i] := by
  rw [List.take_add_one, List.take_add_one, List.getElem?_eq_getElem hl, List.getElem?_eq_getElem hm]
  simp only [Option.toList_some]
  constructor
  · intro h
    have := List.append_inj h (by simp; omega)
    exact ⟨this.1, by simpa using this.2⟩
  · rintro ⟨h1, h2⟩
    rw [h1, h2]
end Go.Proofs.D
/-
  THE LAW DfaApart.
-/
set_option linter.unusedVariables false
set_option linter.unusedSimpArgs false
namespace Go.Proofs.D
open Go Go.Abs Go.RowKit
attribute [local simp] VC VCS stepVS stepTopS firstId memN bigB unmark markT mkOff calmP keepT boundB boundC stepV stepTop stepReg stepOp stMove stPick stBin stUn stConv stBox stAlloc stLoad stStore stFieldAddr stField stExtract stNilCheck stMakeFunc stIndexAddr stIndex stLen
  stBuild placesOf fillA stBuildSlice sliceCells repL chunks allPV toPV drawOk drawOk.go mayMakeO mayMake1 disjoint pairS Oper.apart Oper.looksAt Op.operands Call.operands Region.binds stAppend appBase appTail unName stSlice bndA
  LS.ev LS.get LS.blk LS.put LS.app LS.upd lkS lkH setS setH Nm.eqb guardOf nexts okPair dstOk AV.cellsOf takeAt putAt lkT sliceE fieldT intK isStrT isBoolT abin newOk LS.freshB LS.freshB.go LS.freshB.goH notIn AV.ments AV.ments.mentsL Blk.ments makes upsMents LS.start startL exitTo T T5 outs callSideR callSideO callSideD upsR backO freshAll argB onlyIO List.map List.append List.nil_append List.cons_append Nat.blt
  conv convS convH srcs srcOf blkOk leA leA.leL Go.Abs.leB leP laid laidM laidG isArg subH retP resAV resL res1 AV.frz AV.frz.frzL evL AV.ren AV.ren.renL Blk.ren renBs blksOf allSome nodupB onlyArgs blksMents callUps keyed inName inName.go backName callSide
theorem lexlt_at : ∀ (u v : Row) (i : Nat) (a b : ByteArray), lexlt u v → u.take i = v.take i → u[i]? = some a → v[i]? = some b → a ≠ b → blt a b
  | [], _, _, _, _, h, _, _, _, _ => h.elim
  | _ :: _, [], _, _, _, h, _, _, _, _ => h.elim
  | x :: u, y :: v, 0, a, b, h, _, ha, hb, hne => by
    simp at ha hb
    subst ha hb
    rcases h with h | ⟨e, _⟩
    · exact h
    · exact absurd e hne
  | x :: u, y :: v, i + 1, a, b, h, ht, ha, hb, hne => by
    simp at ha hb ht
    obtain ⟨rfl, ht⟩ := ht
    rcases h with h | ⟨_, h⟩
    · exact absurd h (blt_irrefl x)
    · exact lexlt_at u v i a b h ht ha hb hne
theorem has_tame {e : E} (he : Tame e) (w : Row) : e.has w = true ↔ e.L w := has_iff (tame_right he) w
theorem has_dif {e f : E} (he : Tame e) (hf : Tame f) {w : Row} (h : e.has w ≠ f.has w) : Dif e f true w := by
  have h1 := has_tame he w
  have h2 := has_tame hf w
  unfold Dif
  rw [← h1, ← h2]
  cases h3 : e.has w <;> cases h4 : f.has w <;> simp_all
/-- What is told apart by a row is told apart by one that is not behind it. -/
theorem apart_word {e f : E} (he : Tame e) (hf : Tame f) {w : Row} (h : e.has w ≠ f.has w) : (apartR e f true).2 = true ∧ sle (apartR e f true).1 w := by
  have hD := has_dif he hf h
  have ht : (apartR e f true).2 = true := by
    cases hb : (apartR e f true).2 with
    | true => rfl
    | false => exact absurd hD (apartR_false hb w)
  exact ⟨ht, not_slt fun hlt => (apartR_least he.1 hf.1 ht).2 w hlt hD⟩
theorem dfa_acc {e : E} (he : Tame e) (w : Row) : e.dfa.acc (e.dfa.run 0 w) = true ↔ e.L w := by
  obtain ⟨l1, m1⟩ := dfa_least he.1 he.2
  exact (sem_has l1.sem.toSem0 w).trans (m1 w)
theorem c24 {e : E} (hs : e.small) (w : Row) (hw : w.length ≤ 4000000000000) : Fun Tryz.prog tab10 24 [e.av, .pv (namesV w)] [] (vB (e.has w)) [] := f20 tab10 e hs w (by simp only [maxLen]; omega)
attribute [local simp] T6
set_option maxRecDepth 20000 in
set_option maxHeartbeats 4000000 in
theorem h5 (e : E) (hs : e.small) (hc : e.cnt ≤ 1000000000) (f : E) (hsf : f.small) (hcf : f.cnt ≤ 1000000000) (w : List ByteArray) : Fun Tryz.prog tab10 5 [e.av, f.av, .pv (namesV w)] [] (vB true) [] := by
  have hof := @c17 e hs hc
  have hofF := @c17 f hsf hcf
  refine fun_of (T := T5) (n := 114) (rs := [.tmp 6]) Tryz.func5 (by kernel_rfl) rfl rfl rfl tok5 mixed (by simp) fun C hC => ?_
  refine hC.go [] 60 ?_
  simp [E.av, E.cells]
  refine hC.call [] h15 (by simp) ?_
  refine hC.go [] 60 ?_
  simp
  refine hC.call [] (f18 tab10 e hs) (by simp [E.av, E.cells]) ?_
  cases hr : e.right with
  | false =>
    refine hC.go [] 60 ?_
    simp
  | true =>
    refine hC.go [] 60 ?_
    simp
    refine hC.call [] (f18 tab10 f hsf) (by simp [E.av, E.cells]) ?_
    cases hrf : f.right with
    | false =>
      refine hC.go [] 60 ?_
      simp
    | true =>
      by_cases h30 : 30 < (w.length : Int)
      · refine hC.go [] 60 ?_
        simp [h30]
      · have he := right_tame hr hc
        have hf := right_tame hrf hcf
        replace hof := hof hr
        replace hofF := hofF hrf
        have aab := c22 he hf
        have aba := c22 hf he
        rw [apartR_comm f e] at aba
        have hwe := c24 hs w (by omega)
        have hwf := c24 hsf w (by omega)
        have hword : e.has w ≠ f.has w → (apartR e f true).2 = true ∧ sle (apartR e f true).1 w := apart_word he hf
        generalize apartR e f true = r at aab aba hword
        obtain ⟨row, ap⟩ := r
        dsimp only at aab aba hword
        generalize e.dfa = a at hof aab aba
        generalize f.dfa = b at hofF aab aba
        generalize e.has w = he1 at hwe hword
        generalize f.has w = hf1 at hwf hword
        refine hC.go [] 60 ?_
        simp [h30]
        refine hC.call [] hof (by simp [E.av, E.cells, Au.av, Au.cells]) ?_
        refine hC.go [] 60 ?_
        simp [E.cells, Au.av, Au.cells]
        refine hC.call [] hofF (by simp [E.av, E.cells, Au.av, Au.cells]) ?_
        refine hC.go [] 60 ?_
        simp [E.cells, Au.av, Au.cells]
        refine hC.call [] aab (by simp [Au.av, Au.cells]) ?_
        refine hC.go [] 60 ?_
        simp [E.cells, Au.av, Au.cells]
        refine hC.call [] aba (by simp [Au.av, Au.cells]) ?_
        refine hC.go [] 60 ?_
        simp [E.cells, Au.av, Au.cells]
        refine hC.call [] (h23 tab10 row row) (by simp) ?_
        refine hC.go [] 60 ?_
        simp [E.cells, Au.av, Au.cells]
        refine hC.drawn (by kernel_rfl) (by simp [E.cells]) ?_
        refine hC.go [] 60 ?_
        simp [E.cells, Au.av, Au.cells]
        refine hC.call [] hwe (by simp [E.av, E.cells]) ?_
        refine hC.go [] 60 ?_
        simp [E.cells, Au.av, Au.cells]
        refine hC.call [] hwf (by simp [E.av, E.cells]) ?_
        by_cases hee : he1 = hf1
        · refine hC.go [] 60 ?_
          simp [hee]
        · have hbe : (he1 == hf1) = false := by cases he1 <;> cases hf1 <;> simp_all
          obtain ⟨hap, hsle⟩ := hword hee
          subst hap
          have hlen : ¬ (w.length : Int) < (row.length : Int) := by
            rcases hsle with rfl | hlt | ⟨heq, _⟩ <;> omega
          refine hC.til [14] [] 60 ?_
          simp [hbe, hlen]
          refine go_len 2 1 (w.map fun s => [.val (.string s)]) (by simp) fun hwl => ?_
          rw [List.length_map] at hwl
          refine hC.go [] 60 ?_
          simp
          by_cases heq : (row.length : Int) = w.length
          · have heqn : row.length = w.length := by omega
            have hlex : row = w ∨ lexlt row w := by
              rcases hsle with rfl | hlt | ⟨_, h⟩
              · exact .inl rfl
              · omega
              · exact .inr h
            refine go_loop (ι := {i : Nat // i ≤ w.length ∧ row.take i = w.take i}) (fun x => ⟨[(2, .pv (namesV w)), (12, .pv (namesV row)), (16, vI x.1)], []⟩) (fun x => w.length - x.1) ⟨0, by simp⟩ [] (by simp) fun x ih => ?_
            obtain ⟨i, hi, hn⟩ := x
            simp only at hi hn ih
            by_cases hlt : i < w.length
            · have hlt2 : i < row.length := by omega
              have hw1 := wr64 ((i : Int) + 1) (by omega)
              refine hC.go [] 60 ?_
              simp [hlt, heq]
              refine hC.drawn (by kernel_rfl) (by simp) ?_
              by_cases hne : row[i] = w[i]
              · refine hC.go [] 60 ?_
                simp [hlt, hlt2, hne]
                exact go_to [] (ih ⟨i + 1, hlt, (take_more hlt2 hlt).2 ⟨hn, hne⟩⟩ (by simp; omega)) (by simp [hw1])
              · have hl : lexlt row w := hlex.resolve_left fun q => hne (by subst q; rfl)
                have hb := (less_blt _ _).2 (lexlt_at row w i _ _ hl hn (List.getElem?_eq_getElem hlt2) (List.getElem?_eq_getElem hlt) hne)
                refine hC.til [10] [] 60 ?_
                simp [hlt, hlt2, hne]
                refine hC.drawn (by kernel_rfl) (by simp) ?_
                refine hC.go [] 60 ?_
                simp [hlt, hlt2, hb]
            · refine hC.go [] 60 ?_
              simp [hlt]
          · refine go_loop (ι := Unit) (fun x => ⟨[(2, .pv (namesV w)), (12, .pv (namesV row)), (16, vI 0)], []⟩) (fun x => 0) () [] (by simp) fun x ih => ?_
            have heqn : ¬ row.length = w.length := by omega
            refine hC.go [] 60 ?_
            by_cases h0 : 0 < (w.length : Int)
            · have h0n : 0 < w.length := by omega
              simp [heq, h0, heqn, h0n]
            · have h0n : ¬ 0 < w.length := by omega
              simp [heq, h0, heqn, h0n]
end Go.Proofs.D
/-
  THE LAW DfaLeast.
-/
set_option linter.unusedVariables false
set_option linter.unusedSimpArgs false
namespace Go.Proofs.D
open Go Go.Abs Go.RowKit
attribute [local simp] VC VCS stepVS stepTopS firstId memN bigB unmark markT mkOff calmP keepT boundB boundC stepV stepTop stepReg stepOp stMove stPick stBin stUn stConv stBox stAlloc stLoad stStore stFieldAddr stField stExtract stNilCheck stMakeFunc stIndexAddr stIndex stLen
  stBuild placesOf fillA stBuildSlice sliceCells repL chunks allPV toPV drawOk drawOk.go mayMakeO mayMake1 disjoint pairS Oper.apart Oper.looksAt Op.operands Call.operands Region.binds stAppend appBase appTail unName stSlice bndA
  LS.ev LS.get LS.blk LS.put LS.app LS.upd lkS lkH setS setH Nm.eqb guardOf nexts okPair dstOk AV.cellsOf takeAt putAt lkT sliceE fieldT intK isStrT isBoolT abin newOk LS.freshB LS.freshB.go LS.freshB.goH notIn AV.ments AV.ments.mentsL Blk.ments makes upsMents LS.start startL exitTo T T5 outs callSideR callSideO callSideD upsR backO freshAll argB onlyIO List.map List.append List.nil_append List.cons_append Nat.blt
  conv convS convH srcs srcOf blkOk leA leA.leL Go.Abs.leB leP laid laidM laidG isArg subH retP resAV resL res1 AV.frz AV.frz.frzL evL AV.ren AV.ren.renL Blk.ren renBs blksOf allSome nodupB onlyArgs blksMents callUps keyed inName inName.go backName callSide
noncomputable def code6 (id : Nat) : Code := match Tryz.f6.body with
  | some c => seqAt 60 id c
  | none => .ret
attribute [local simp] T6
/-- The seq whose first region is id, wherever it lies. -/
def dig : Nat → Nat → Code → Option Code
  | 0, _, _ => none
  | n + 1, id, .seq x y => if firstR 20 x = some id then some (.seq x y) else match dig n id x with | some c => some c | none => dig n id y
  | n + 1, id, .block _ c => dig n id c
  | n + 1, id, .loop c => dig n id c
  | _, _, _ => none
noncomputable def dig6 (id : Nat) : Code := match Tryz.f6.body with
  | some c => (dig 200 id c).getD .ret
  | none => .ret
set_option maxRecDepth 20000 in
set_option maxHeartbeats 4000000 in
theorem h6i {a b : Au} {i : Nat} {r s : List Int} (hlt : i < a.next.length) (g1 : i < b.next.length) (hr : a.next[i] = r) (hs : b.next[i] = s) (hrl : r.length = s.length) (hr1 : r.length ≤ 1000000000) (z : Bool) {ops : Array Oper} {k : List Item} {C : Ctx} (hC : Rd C Tryz.prog tab10 T5 190 [.tmp 4] (vB true) (keyed 0 []))
    (hk : Go.Abs.Go C (.top (.code (.region 15 ops false) :: k) ⟨[(6, .ptr (.loc 6) 0), (8, .ptr (.loc 8) 0), (14, vB (z && decide (r = s))), (15, vI i)], [(.loc 6, some (.box 31 a.cells)), (.loc 8, some (.box 31 b.cells))]⟩)) :
    Go.Abs.Go C (.top (.code (dig6 17) :: .inBlock 1 :: .code (.region 15 ops false) :: k) ⟨[(6, .ptr (.loc 6) 0), (8, .ptr (.loc 8) 0), (14, vB z), (15, vI i)], [(.loc 6, some (.box 31 a.cells)), (.loc 8, some (.box 31 b.cells))]⟩) := by
  show Go.Abs.Go C (.top (.code (.seq _ _) :: _) _)
  refine hC.go [] 60 ?_
  simp [Au.cells]
  refine go_loop (ι := {k : Nat // k ≤ r.length}) (fun x => ⟨[(6, .ptr (.loc 6) 0), (8, .ptr (.loc 8) 0), (14, vB (z && decide (r.take x.1 = s.take x.1))), (15, vI i), (16, vI x.1)], [(.loc 6, some (.box 31 a.cells)), (.loc 8, some (.box 31 b.cells))]⟩) (fun x => r.length - x.1) ⟨0, by simp⟩ [] (by simp [Au.cells]) fun x ih => ?_
  obtain ⟨j, hj⟩ := x
  simp only at hj ih
  by_cases hjl : j < r.length
  · have hjs : j < s.length := by omega
    have hw1 := wr64 ((j : Int) + 1) (by omega)
    refine hC.go [] 60 ?_
    simp [hlt, g1, Au.cells, hr, hs, hjl, hjs]
    refine hC.drawn (by kernel_rfl) (by simp [Au.cells]) ?_
    have hst : decide (r.take (j + 1) = s.take (j + 1)) = (decide (r.take j = s.take j) && decide (r[j] = s[j])) := by
      rw [Bool.eq_iff_iff, Bool.and_eq_true]
      simp only [decide_eq_true_eq]
      exact take_more hjl hjs
    cases hz : z && decide (r.take j = s.take j)
    all_goals
      refine hC.go [] 60 ?_
      simp [hlt, g1, Au.cells, hr, hs, hjl, hjs]
      refine go_to [] (ih ⟨j + 1, hjl⟩ (by simp; omega)) ?_
      simp [hw1, Au.cells, hst, ← Bool.and_assoc, hz]
  · have hjs : ¬ j < s.length := by omega
    dsimp only
    rw [List.take_of_length_le (by omega), List.take_of_length_le (by omega)]
    refine hC.til [15] [] 60 ?_
    simp [hlt, g1, Au.cells, hr, hs, hjl, hjs]
    exact go_to [] hk (by simp [Au.cells])
set_option maxRecDepth 20000 in
set_option maxHeartbeats 4000000 in
theorem h6c {a b : Au} {Sab : Bool} (hra : ∀ r ∈ a.next, r.length = a.names.length) (hrb : ∀ r ∈ b.next, r.length = b.names.length) (hfa : a.final.length = a.next.length) (hfb : b.final.length = b.next.length) (hn : a.names = b.names) (hln : a.next.length = b.next.length) (hnl : a.names.length ≤ 1000)
    (sab : Fun Tryz.prog tab10 25 [a.av, b.av] [] (vB Sab) []) (p2 : Sab = decide (a.final = b.final ∧ a.next = b.next)) {C : Ctx} (hC : Rd C Tryz.prog tab10 T5 190 [.tmp 4] (vB true) (keyed 0 [])) :
    Go.Abs.Go C (.top [.code (code6 13)] ⟨[(6, .ptr (.loc 6) 0), (8, .ptr (.loc 8) 0), (14, vB true)], [(.loc 6, some (.box 31 a.cells)), (.loc 8, some (.box 31 b.cells))]⟩) := by
  show Go.Abs.Go C (.top [.code (.seq _ _)] _)
  refine go_lenB (.loc 6) 31 a.cells 2 1 (a.final.map fun b => [.val (.bool b)]) (by simp [Au.cells]) (by simp [Au.cells]) fun hfl => ?_
  rw [List.length_map] at hfl
  refine hC.go [] 60 ?_
  simp
  refine go_loop (ι := {i : Nat // i ≤ a.next.length}) (fun x => ⟨[(6, .ptr (.loc 6) 0), (8, .ptr (.loc 8) 0), (14, vB (oneTo a b x.1)), (15, vI x.1)], [(.loc 6, some (.box 31 a.cells)), (.loc 8, some (.box 31 b.cells))]⟩) (fun x => a.next.length - x.1) ⟨0, by simp⟩ [] (by simp [Au.cells, oneTo]) fun x ih => ?_
  obtain ⟨i, hi⟩ := x
  simp only at hi ih
  by_cases hlt : i < a.next.length
  · have g1 : i < b.next.length := by omega
    have g2 : i < a.final.length := by omega
    have g3 : i < b.final.length := by omega
    have hw1 := wr64 ((i : Int) + 1) (by omega)
    obtain ⟨x, hx⟩ : ∃ x, a.final[i] = x := ⟨_, rfl⟩
    obtain ⟨y, hy⟩ : ∃ y, b.final[i] = y := ⟨_, rfl⟩
    obtain ⟨r, hr⟩ : ∃ r, a.next[i] = r := ⟨_, rfl⟩
    obtain ⟨s, hs⟩ : ∃ s, b.next[i] = s := ⟨_, rfl⟩
    have hr1 : r.length = a.names.length := by rw [← hr, hra _ (List.getElem_mem hlt)]
    have hrl : r.length = s.length := by rw [hr1, ← hs, hrb _ (List.getElem_mem g1), hn]
    have hend : oneTo a b (i + 1) = (oneTo a b i && (x == y) && decide (r = s)) := by
      unfold oneTo
      rw [Bool.eq_iff_iff]
      simp only [decide_eq_true_eq, Bool.and_eq_true, beq_iff_eq, take_more g2 g3, take_more hlt g1, hx, hy, hr, hs]
      exact ⟨fun ⟨⟨p, q⟩, p', q'⟩ => ⟨⟨⟨p, p'⟩, q⟩, q'⟩, fun ⟨⟨⟨p, p'⟩, q⟩, q'⟩ => ⟨⟨p, q⟩, p', q'⟩⟩
    refine hC.go [] 60 ?_
    simp [hlt, g1, g2, g3, Au.cells]
    refine hC.drawn (by kernel_rfl) (by simp [Au.cells]) ?_
    cases hz : oneTo a b i
    all_goals
      refine hC.til [1017] [] 60 ?_
      simp [hlt, g1, g2, g3, Au.cells, hx, hy]
      refine go_to [] (h6i hlt g1 hr hs hrl (by omega) (oneTo a b i && (x == y)) hC ?_) (by simp [Au.cells, hz])
      refine hC.go [] 60 ?_
      simp
      exact go_to [] (ih ⟨i + 1, hlt⟩ (by simp; omega)) (by simp [hw1, Au.cells, hend])
  · have hall : oneTo a b i = decide (a.final = b.final ∧ a.next = b.next) := by
      unfold oneTo
      rw [List.take_of_length_le (by omega), List.take_of_length_le (by omega), List.take_of_length_le (by omega), List.take_of_length_le (by omega)]
    refine hC.go [] 60 ?_
    simp [hlt, Au.cells]
    refine hC.call [] sab (by simp [Au.av, Au.cells]) ?_
    rw [p2, hall]
    refine hC.go [] 60 ?_
    simp [Au.cells]
set_option maxRecDepth 20000 in
set_option maxHeartbeats 4000000 in
theorem h6b {e f : E} (he : Tame e) (hf : Tame f) {C : Ctx} (hC : Rd C Tryz.prog tab10 T5 190 [.tmp 4] (vB true) (keyed 0 [])) :
    Go.Abs.Go C (.top [.code (code6 10)] ⟨[(6, .ptr (.loc 6) 0), (8, .ptr (.loc 8) 0)], [(.loc 6, some (.box 31 e.dfa.cells)), (.loc 8, some (.box 31 f.dfa.cells))]⟩) := by
  have sab := c25 he hf
  have p1 : e.dfa.names = f.dfa.names → e.dfa.next.length ≠ f.dfa.next.length → sameB e f = false := fun h h' => same_len he hf h h'
  have p2 : e.dfa.names = f.dfa.names → sameB e f = decide (e.dfa.final = f.dfa.final ∧ e.dfa.next = f.dfa.next) := fun h => same_dfa he hf h
  have s1 := (dfa_least he.1 he.2).1.sem
  have s2 := (dfa_least hf.1 hf.2).1.sem
  have hfa := s1.len
  have hfb := s2.len
  have hra := s1.row
  have hnl := dfa_fit he
  have hrb := s2.row
  clear s1 s2
  generalize sameB e f = Sab at sab p1 p2
  generalize e.dfa = a at *
  generalize f.dfa = b at *
  have h23 := h23 tab10 a.names b.names
  show Go.Abs.Go C (.top [.code (.seq _ _)] _)
  refine hC.go [] 60 ?_
  simp [Au.cells]
  refine hC.call [] h23 (by simp) ?_
  by_cases hn : a.names = b.names
  · have hnd : decide (a.names = b.names) = true := decide_eq_true hn
    by_cases hl : (a.next.length : Int) = b.next.length
    · have hln : a.next.length = b.next.length := by omega
      replace p2 := p2 hn
      refine hC.til [1013] [] 60 ?_
      simp [Au.cells, hnd, hl, hln]
      exact go_to [] (h6c hra hrb hfa hfb hn hln hnl sab p2 hC) (by simp [Au.cells])
    · have q := p1 hn (by omega)
      subst q
      have hl' : ¬ a.next.length = b.next.length := by omega
      refine hC.go [] 60 ?_
      simp [Au.cells, hnd, hl, hl']
      refine hC.call [] h23 (by simp) ?_
      refine hC.go [] 60 ?_
      simp [Au.cells, hnd]
      refine hC.call [] sab (by simp [Au.av, Au.cells]) ?_
      refine hC.go [] 60 ?_
      simp [Au.cells]
  · have hnd : decide (a.names = b.names) = false := decide_eq_false hn
    refine hC.go [] 60 ?_
    simp [Au.cells, hnd]
    refine hC.call [] h23 (by simp) ?_
    refine hC.go [] 60 ?_
    simp [Au.cells, hnd]
set_option maxRecDepth 20000 in
set_option maxHeartbeats 4000000 in
theorem h6 (e : E) (hs : e.small) (hc : e.cnt ≤ 1000000000) (f : E) (hsf : f.small) (hcf : f.cnt ≤ 1000000000) : Fun Tryz.prog tab10 6 [e.av, f.av] [] (vB true) [] := by
  have hof := @c17 e hs (by omega)
  have hofF := @c17 f hsf hcf
  refine fun_of (T := T5) (n := 190) (rs := [.tmp 4]) Tryz.func6 (by kernel_rfl) rfl rfl rfl tok5 mixed (by simp) fun C hC => ?_
  refine hC.go [] 60 ?_
  simp [E.av, E.cells]
  refine hC.call [] h15 (by simp) ?_
  refine hC.go [] 60 ?_
  simp
  refine hC.call [] (f18 tab10 e hs) (by simp [E.av, E.cells]) ?_
  cases hr : e.right with
  | false =>
    refine hC.go [] 60 ?_
    simp
  | true =>
    refine hC.go [] 60 ?_
    simp
    refine hC.call [] (f18 tab10 f hsf) (by simp [E.av, E.cells]) ?_
    cases hrf : f.right with
    | false =>
      refine hC.go [] 60 ?_
      simp
    | true =>
      have he := right_tame hr (by omega)
      have hf := right_tame hrf hcf
      replace hof := hof hr
      replace hofF := hofF hrf
      refine hC.go [] 60 ?_
      simp
      refine hC.call [] hof (by simp [E.av, E.cells, Au.av, Au.cells]) ?_
      refine hC.go [] 60 ?_
      simp [E.cells, Au.av, Au.cells]
      refine hC.call [] hofF (by simp [E.av, E.cells, Au.av, Au.cells]) ?_
      refine hC.go [] 60 ?_
      simp [E.cells, Au.av, Au.cells]
      have hc24 := he.2
      have hofC := h17 (altE e) (alt_small hs) (by rw [alt_cnt]; omega)
      have hofD := h17 (starE e) (star_small hs) (by rw [star_cnt]; omega)
      have eC : (altE e).av = .agg [.pv (.val (.int .u8 97)), .pv (.val (.string ⟨#[]⟩)), .pv (.ro 3 [[.val (.int .u8 115), .val (.string ⟨#[]⟩), .ro 3 []], [.val (.int .u8 43), .val (.string ⟨#[]⟩), .ro 3 [[.val (.int .u8 e.op), .val (.string e.name), .ro 3 (e.kids.map E.pv)]]]])] := by
        simp [altE, plusE, E.av, E.cells, E.pv_eq, E.op, E.name, E.kids]
      have eD : (starE e).av = .agg [.pv (.val (.int .u8 42)), .pv (.val (.string ⟨#[]⟩)), .pv (.ro 3 [[.val (.int .u8 e.op), .val (.string e.name), .ro 3 (e.kids.map E.pv)]])] := by
        simp [starE, E.av, E.cells, E.pv_eq, E.op, E.name, E.kids]
      have saa := c25 he he
      rw [sameB_self] at saa
      rw [eC] at hofC
      rw [eD] at hofD
      have tail := h6b he hf hC
      have scd := @c25 (altE e) (starE e)
      rw [star_same] at scd
      generalize e.dfa = a at *
      generalize f.dfa = b at *
      cases hrc : (altE e).right with
      | false =>
        rw [show (altE e).dfaOf = .tup [.agg [.pv (.ro 1 []), .pv (.ro 1 []), .pv (.ro 1 [])], vI 2] by rw [E.dfaOf, if_neg (by rw [hrc]; decide)]] at hofC
        cases hrd : (starE e).right with
        | false =>
          rw [show (starE e).dfaOf = .tup [.agg [.pv (.ro 1 []), .pv (.ro 1 []), .pv (.ro 1 [])], vI 2] by rw [E.dfaOf, if_neg (by rw [hrd]; decide)]] at hofD
          generalize (altE e).dfa = c at *
          generalize (starE e).dfa = d at *
          refine hC.call [] hofC (by simp [Au.av, Au.cells]) ?_
          refine hC.go [] 60 ?_
          simp [E.cells, Au.av, Au.cells]
          refine hC.call [] hofD (by simp [Au.av, Au.cells]) ?_
          refine hC.go [] 60 ?_
          simp [E.cells, Au.av, Au.cells]
          refine hC.call [] saa (by simp [Au.av, Au.cells]) ?_
          refine hC.til [1010] [] 60 ?_
          simp [E.cells, Au.av, Au.cells]
          exact go_to [] tail (by simp [Au.cells])
        | true =>
          rw [show (starE e).dfaOf = .tup [(starE e).dfa.av, vI 0] by rw [E.dfaOf, if_pos hrd]] at hofD
          generalize (altE e).dfa = c at *
          generalize (starE e).dfa = d at *
          refine hC.call [] hofC (by simp [Au.av, Au.cells]) ?_
          refine hC.go [] 60 ?_
          simp [E.cells, Au.av, Au.cells]
          refine hC.call [] hofD (by simp [Au.av, Au.cells]) ?_
          refine hC.go [] 60 ?_
          simp [E.cells, Au.av, Au.cells]
          refine hC.call [] saa (by simp [Au.av, Au.cells]) ?_
          refine hC.til [1010] [] 60 ?_
          simp [E.cells, Au.av, Au.cells]
          exact go_to [] tail (by simp [Au.cells])
      | true =>
        rw [show (altE e).dfaOf = .tup [(altE e).dfa.av, vI 0] by rw [E.dfaOf, if_pos hrc]] at hofC
        cases hrd : (starE e).right with
        | false =>
          rw [show (starE e).dfaOf = .tup [.agg [.pv (.ro 1 []), .pv (.ro 1 []), .pv (.ro 1 [])], vI 2] by rw [E.dfaOf, if_neg (by rw [hrd]; decide)]] at hofD
          generalize (altE e).dfa = c at *
          generalize (starE e).dfa = d at *
          refine hC.call [] hofC (by simp [Au.av, Au.cells]) ?_
          refine hC.go [] 60 ?_
          simp [E.cells, Au.av, Au.cells]
          refine hC.call [] hofD (by simp [Au.av, Au.cells]) ?_
          refine hC.go [] 60 ?_
          simp [E.cells, Au.av, Au.cells]
          refine hC.call [] saa (by simp [Au.av, Au.cells]) ?_
          refine hC.til [1010] [] 60 ?_
          simp [E.cells, Au.av, Au.cells]
          exact go_to [] tail (by simp [Au.cells])
        | true =>
          rw [show (starE e).dfaOf = .tup [(starE e).dfa.av, vI 0] by rw [E.dfaOf, if_pos hrd]] at hofD
          replace scd := scd (right_tame hrc (by rw [alt_cnt]; omega)) (right_tame hrd (by rw [star_cnt]; omega))
          generalize (altE e).dfa = c at *
          generalize (starE e).dfa = d at *
          refine hC.call [] hofC (by simp [Au.av, Au.cells]) ?_
          refine hC.go [] 60 ?_
          simp [E.cells, Au.av, Au.cells]
          refine hC.call [] hofD (by simp [Au.av, Au.cells]) ?_
          refine hC.go [] 60 ?_
          simp [E.cells, Au.av, Au.cells]
          refine hC.call [] saa (by simp [Au.av, Au.cells]) ?_
          refine hC.go [] 60 ?_
          simp [E.cells, Au.av, Au.cells]
          refine hC.call [] scd (by simp [Au.av, Au.cells]) ?_
          refine hC.til [1010] [] 60 ?_
          simp [E.cells, Au.av, Au.cells]
          exact go_to [] tail (by simp [Au.cells])
end Go.Proofs.D
