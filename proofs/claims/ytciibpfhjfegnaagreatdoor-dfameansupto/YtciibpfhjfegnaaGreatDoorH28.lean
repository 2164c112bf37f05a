/-
  WHETHER TWO EXPRESSIONS MEAN THE SAME, by their dfas; the law DfaOrder.
-/
import Derived.Test.YtciibpfhjfegnaaGreatDoorG12
import Derived.Test.YtciibpfhjfegnaaGreatDoorH24
import Derived.Test.YtciibpfhjfegnaaGreatDoorH19
import Derived.Test.YtciibpfhjfegnaaGreatDoorG15
set_option linter.unusedVariables false
set_option linter.unusedSimpArgs false
namespace Go.Proofs.D
open Go Go.Abs Go.RowKit
attribute [local simp] VC VCS stepVS stepTopS firstId memN bigB unmark markT mkOff calmP keepT boundB boundC stepV stepTop stepReg stepOp stMove stPick stBin stUn stConv stBox stAlloc stLoad stStore stFieldAddr stField stExtract stNilCheck stMakeFunc stIndexAddr stIndex stLen
  stBuild placesOf fillA stBuildSlice sliceCells repL chunks allPV toPV drawOk drawOk.go mayMakeO mayMake1 disjoint pairS Oper.apart Oper.looksAt Op.operands Call.operands Region.binds stAppend appBase appTail unName stSlice bndA
  LS.ev LS.get LS.blk LS.put LS.app LS.upd lkS lkH setS setH Nm.eqb guardOf nexts okPair dstOk AV.cellsOf takeAt putAt lkT sliceE fieldT intK isStrT isBoolT abin newOk LS.freshB LS.freshB.go LS.freshB.goH notIn AV.ments AV.ments.mentsL Blk.ments makes upsMents LS.start startL exitTo T T5 outs callSideR callSideO callSideD upsR backO freshAll argB onlyIO List.map List.append List.nil_append List.cons_append Nat.blt
  conv convS convH srcs srcOf blkOk leA leA.leL Go.Abs.leB leP laid laidM laidG isArg subH retP resAV resL res1 AV.frz AV.frz.frzL evL AV.ren AV.ren.renL Blk.ren renBs blksOf allSome nodupB onlyArgs blksMents callUps keyed inName inName.go backName callSide
open Classical in
noncomputable def sameB (e f : E) : Bool := decide (∀ w, e.L w ↔ f.L w)
open Classical in
noncomputable def withB (e f : E) : Bool := decide (∀ w, e.L w → f.L w)
open Classical in
theorem apart_same (e f : E) : (!(apartR e f true).2) = sameB e f := by
  cases h : (apartR e f true).2 with
  | false =>
    have := apartR_false h
    refine (decide_eq_true fun w => ?_).symm
    have := this w
    unfold Dif at this
    constructor
    · intro h1; exact Classical.byContradiction fun h2 => this (.inl ⟨h1, h2⟩)
    · intro h1; exact Classical.byContradiction fun h2 => this (.inr ⟨rfl, h1, h2⟩)
  | true =>
    obtain ⟨w, hw⟩ := apartR_true h
    refine (decide_eq_false fun q => ?_).symm
    rcases hw with ⟨h1, h2⟩ | ⟨_, h1, h2⟩
    · exact h2 ((q w).1 h1)
    · exact h2 ((q w).2 h1)
open Classical in
theorem apart_with (e f : E) : (!(apartR e f false).2) = withB e f := by
  cases h : (apartR e f false).2 with
  | false =>
    have := apartR_false h
    refine (decide_eq_true fun w h1 => ?_).symm
    exact Classical.byContradiction fun h2 => this w (.inl ⟨h1, h2⟩)
  | true =>
    obtain ⟨w, hw⟩ := apartR_true h
    refine (decide_eq_false fun q => ?_).symm
    rcases hw with ⟨h1, h2⟩ | ⟨h0, _⟩
    · exact h2 (q w h1)
    · cases h0
theorem same_within (e f : E) : sameB e f = (withB e f && withB f e) := by
  rw [Bool.eq_iff_iff, Bool.and_eq_true]
  unfold sameB withB
  simp only [decide_eq_true_eq]
  exact ⟨fun h => ⟨fun w => (h w).1, fun w => (h w).2⟩, fun h w => ⟨h.1 w, h.2 w⟩⟩
theorem same_comm (e f : E) : sameB e f = sameB f e := by
  rw [same_within, same_within, Bool.and_comm]
theorem within_trans {e f g : E} (h : withB e f = true) (h' : withB f g = true) : withB e g = true := by
  unfold withB at *
  simp only [decide_eq_true_eq] at *
  exact fun w q => h' w (h w q)
theorem c25 {e f : E} (he : Tame e) (hf : Tame f) : Fun Tryz.prog tab10 25 [e.dfa.av, f.dfa.av] [] (vB (sameB e f)) [] := by
  obtain ⟨l1, m1⟩ := dfa_least he.1 he.2
  obtain ⟨l2, m2⟩ := dfa_least hf.1 hf.2
  rw [← apart_same]
  exact h25 tab10 l1 l2 he.2 hf.2 he.1 hf.1 m1 m2 (dfa_fit he) (dfa_fit hf)
theorem c26 {e f : E} (he : Tame e) (hf : Tame f) : Fun Tryz.prog tab10 26 [e.dfa.av, f.dfa.av] [] (vB (withB e f)) [] := by
  obtain ⟨l1, m1⟩ := dfa_least he.1 he.2
  obtain ⟨l2, m2⟩ := dfa_least hf.1 hf.2
  rw [← apart_with]
  exact h26 tab10 l1 l2 he.2 hf.2 he.1 hf.1 m1 m2 (dfa_fit he) (dfa_fit hf)
theorem c22 {e f : E} (he : Tame e) (hf : Tame f) : Fun Tryz.prog tab10 22 [e.dfa.av, f.dfa.av] [] (.tup [.pv (namesV (apartR e f true).1), vB (apartR e f true).2]) [] := by
  obtain ⟨l1, m1⟩ := dfa_least he.1 he.2
  obtain ⟨l2, m2⟩ := dfa_least hf.1 hf.2
  exact h22 tab10 l1 l2 he.2 hf.2 he.1 hf.1 m1 m2 (dfa_fit he) (dfa_fit hf)
theorem c17 {e : E} (hs : e.small) (hc : e.cnt ≤ 1000000000) (hr : e.right = true) : Fun Tryz.prog tab10 17 [e.av] [] (.tup [e.dfa.av, vI 0]) [] := by
  have := h17 e hs hc
  rwa [show e.dfaOf = .tup [e.dfa.av, vI 0] by rw [E.dfaOf, if_pos hr]] at this
attribute [local simp] T6
set_option maxRecDepth 20000 in
set_option maxHeartbeats 4000000 in
theorem h7 (e : E) (hs : e.small) (hc : e.cnt ≤ 1000000000) (f : E) (hsf : f.small) (hcf : f.cnt ≤ 1000000000) (g : E) (hsg : g.small) (hcg : g.cnt ≤ 1000000000) : Fun Tryz.prog tab10 7 [e.av, f.av, g.av] [] (vB true) [] := by
  have hof := @c17 e hs hc
  have hofF := @c17 f hsf hcf
  have hofG := @c17 g hsg hcg
  refine fun_of (T := T5) (n := 84) (rs := [.tmp 6]) Tryz.func7 (by kernel_rfl) rfl rfl rfl tok5 mixed (by simp) fun C hC => ?_
  refine hC.go [] 60 ?_
  simp [E.av, E.cells]
  refine hC.call [] h15 (by simp) ?_
  refine hC.go [] 60 ?_
  simp
  refine hC.call [] (f18 tab10 e hs) (by simp [E.av, E.cells]) ?_
  cases hr : e.right with
  | false =>
    refine hC.go [] 60 ?_
    simp
  | true =>
    refine hC.go [] 60 ?_
    simp
    refine hC.call [] (f18 tab10 f hsf) (by simp [E.av, E.cells]) ?_
    cases hrf : f.right with
    | false =>
      refine hC.go [] 60 ?_
      simp
    | true =>
      refine hC.go [] 60 ?_
      simp
      refine hC.call [] (f18 tab10 g hsg) (by simp [E.av, E.cells]) ?_
      cases hrg : g.right with
      | false =>
        refine hC.go [] 60 ?_
        simp
      | true =>
        have he := right_tame hr hc
        have hf := right_tame hrf hcf
        have hg := right_tame hrg hcg
        replace hof := hof hr
        replace hofF := hofF hrf
        replace hofG := hofG hrg
        have sab := c25 he hf
        have wab := c26 he hf
        have wba := c26 hf he
        have sba := c25 hf he
        have wbc := c26 hf hg
        have wac := c26 he hg
        have p1 := same_within e f
        have p2 := same_comm e f
        have p3 : withB e f = true → withB f g = true → withB e g = true := fun h h' => within_trans h h'
        generalize sameB e f = Sab at sab p1 p2
        generalize sameB f e = Sba at sba p2
        generalize withB e f = Wab at wab p1 p3
        generalize withB f e = Wba at wba p1
        generalize withB f g = Wbc at wbc p3
        generalize withB e g = Wac at wac p3
        generalize e.dfa = a at *
        generalize f.dfa = b at *
        generalize g.dfa = c at *
        subst p2
        subst p1
        refine hC.go [] 60 ?_
        simp
        refine hC.call [] hof (by simp [E.av, E.cells, Au.av, Au.cells]) ?_
        refine hC.go [] 60 ?_
        simp [E.cells, Au.av, Au.cells]
        refine hC.call [] hofF (by simp [E.av, E.cells, Au.av, Au.cells]) ?_
        refine hC.go [] 60 ?_
        simp [E.cells, Au.av, Au.cells]
        refine hC.call [] hofG (by simp [E.av, E.cells, Au.av, Au.cells]) ?_
        refine hC.go [] 60 ?_
        simp [E.cells, Au.av, Au.cells]
        refine hC.drawn (by kernel_rfl) (by simp) ?_
        refine hC.go [] 60 ?_
        simp
        refine hC.call [] sab (by simp [Au.av, Au.cells]) ?_
        refine hC.go [] 60 ?_
        simp
        refine hC.call [] wab (by simp [Au.av, Au.cells]) ?_
        cases Wab with
        | false =>
          refine hC.go [] 60 ?_
          simp
          refine hC.call [] sab (by simp [Au.av, Au.cells]) ?_
          refine hC.go [] 60 ?_
          simp
          refine hC.call [] sba (by simp [Au.av, Au.cells]) ?_
          refine hC.go [] 60 ?_
          simp
          refine hC.call [] wab (by simp [Au.av, Au.cells]) ?_
          refine hC.go [] 60 ?_
          simp
        | true =>
          refine hC.go [] 60 ?_
          simp
          refine hC.call [] wba (by simp [Au.av, Au.cells]) ?_
          all_goals cases Wba
          all_goals
            refine hC.go [] 60 ?_
            simp
            refine hC.call [] sab (by simp [Au.av, Au.cells]) ?_
            refine hC.go [] 60 ?_
            simp
            refine hC.call [] sba (by simp [Au.av, Au.cells]) ?_
            refine hC.go [] 60 ?_
            simp
            refine hC.call [] wab (by simp [Au.av, Au.cells]) ?_
            refine hC.go [] 60 ?_
            simp
            refine hC.call [] wbc (by simp [Au.av, Au.cells]) ?_
            cases Wbc with
            | false =>
              refine hC.go [] 60 ?_
              simp
            | true =>
              refine hC.go [] 60 ?_
              simp
              refine hC.call [] wac (by simp [Au.av, Au.cells]) ?_
              rw [p3 rfl rfl]
              refine hC.go [] 60 ?_
              simp
end Go.Proofs.D
/-
  WHEN TABLES ARE ONE; a star is nothing or a plus.
-/
set_option linter.unusedVariables false
set_option linter.unusedSimpArgs false
namespace Go.Proofs.D
open Go Go.Abs Go.RowKit
theorem same_iff {e f : E} : sameB e f = true ↔ ∀ w, e.L w ↔ f.L w := by
  unfold sameB; simp
theorem sameB_self (e : E) : sameB e e = true := same_iff.2 fun _ => Iff.rfl
theorem same_dfa {e f : E} (he : Tame e) (hf : Tame f) (hn : e.dfa.names = f.dfa.names) : sameB e f = decide (e.dfa.final = f.dfa.final ∧ e.dfa.next = f.dfa.next) := by
  obtain ⟨l1, m1⟩ := dfa_least he.1 he.2
  obtain ⟨l2, m2⟩ := dfa_least hf.1 hf.2
  rw [Bool.eq_iff_iff, decide_eq_true_iff, same_iff]
  constructor
  · intro h
    have := least_one l1 l2 (names_nodup e) hn fun w => by rw [m1, m2, h]
    exact ⟨this.2, this.1⟩
  · rintro ⟨h1, h2⟩ w
    have : e.dfa = f.dfa := by
      cases hd : e.dfa; cases hd' : f.dfa
      rw [hd, hd'] at hn h1 h2
      simp at hn h1 h2
      rw [hn, h1, h2]
    rw [← m1, ← m2, ← sem_has l1.sem.toSem0, ← sem_has l2.sem.toSem0, this]
theorem same_len {e f : E} (he : Tame e) (hf : Tame f) (hn : e.dfa.names = f.dfa.names) (hl : e.dfa.next.length ≠ f.dfa.next.length) : sameB e f = false := by
  rw [same_dfa he hf hn]
  exact decide_eq_false fun h => hl (by rw [h.2])
def starE (e : E) : E := .mk 42 ⟨#[]⟩ [e]
def plusE (e : E) : E := .mk 43 ⟨#[]⟩ [e]
def altE (e : E) : E := .mk 97 ⟨#[]⟩ [.mk 115 ⟨#[]⟩ [], plusE e]
theorem star_same (e : E) : sameB (altE e) (starE e) = true := by
  refine same_iff.2 fun w => ?_
  have hh : E.L.headL [e] = e.L := by funext v; rfl
  have h1 : (starE e).L w ↔ w = [] ∨ Many e.L w := by
    rw [L_eq]
    simp only [starE, E.op, E.kids, hh]
    simp
  have h2 : (plusE e).L w ↔ Many e.L w := by
    rw [L_eq]
    simp only [plusE, E.op, E.kids, hh]
    simp
  have h3 : (E.mk 115 ⟨#[]⟩ []).L w ↔ w = [] := by
    rw [L_eq]
    simp only [E.op, E.kids]
    exact Iff.rfl
  rw [h1, L_eq]
  simp only [altE, E.op, E.kids, E.L.altL, h2, h3]
  simp
theorem star_small {e : E} (h : e.small) : (starE e).small := E.small_mk (by decide) (by simpa using h)
theorem plus_small {e : E} (h : e.small) : (plusE e).small := E.small_mk (by decide) (by simpa using h)
theorem alt_small {e : E} (h : e.small) : (altE e).small := E.small_mk (by decide) (by
  intro k hk
  simp at hk
  rcases hk with rfl | rfl
  · exact E.small_mk (by decide) (by simp)
  · exact plus_small h)
theorem star_cnt (e : E) : (starE e).cnt = e.cnt + 1 := by simp [starE, cnt_eq, E.kids]; omega
theorem alt_cnt (e : E) : (altE e).cnt = e.cnt + 3 := by simp [altE, plusE, cnt_eq, E.kids]; omega
/-- Whether the first ones are one, of rows and of marks of ends. -/
def oneTo (a b : Au) (i : Nat) : Bool := decide (a.final.take i = b.final.take i ∧ a.next.take i = b.next.take i)
theorem take_more {α : Type} {l m : List α} {i : Nat} (hl : i < l.length) (hm : i < m.length) : l.take (i + 1) = m.take (i + 1) ↔ l.take i = m.take i ∧ l[i] = m[i] := by
  rw [List.take_add_one, List.take_add_one, List.getElem?_eq_getElem hl, List.getElem?_eq_getElem hm]
  simp only [Option.toList_some]
  constructor
  · intro h
    have := List.append_inj h (by simp; omega)
    exact ⟨this.1, by simpa using this.2⟩
  · rintro ⟨h1, h2⟩
    rw [h1, h2]
end Go.Proofs.D
/-
  THE LAW DfaApart.
-/
set_option linter.unusedVariables false
set_option linter.unusedSimpArgs false
namespace Go.Proofs.D
open Go Go.Abs Go.RowKit
attribute [local simp] VC VCS stepVS stepTopS firstId memN bigB unmark markT mkOff calmP keepT boundB boundC stepV stepTop stepReg stepOp stMove stPick stBin stUn stConv stBox stAlloc stLoad stStore stFieldAddr stField stExtract stNilCheck stMakeFunc stIndexAddr stIndex stLen
  stBuild placesOf fillA stBuildSlice sliceCells repL chunks allPV toPV drawOk drawOk.go mayMakeO mayMake1 disjoint pairS Oper.apart Oper.looksAt Op.operands Call.operands Region.binds stAppend appBase appTail unName stSlice bndA
  LS.ev LS.get LS.blk LS.put LS.app LS.upd lkS lkH setS setH Nm.eqb guardOf nexts okPair dstOk AV.cellsOf takeAt putAt lkT sliceE fieldT intK isStrT isBoolT abin newOk LS.freshB LS.freshB.go LS.freshB.goH notIn AV.ments AV.ments.mentsL Blk.ments makes upsMents LS.start startL exitTo T T5 outs callSideR callSideO callSideD upsR backO freshAll argB onlyIO List.map List.append List.nil_append List.cons_append Nat.blt
  conv convS convH srcs srcOf blkOk leA leA.leL Go.Abs.leB leP laid laidM laidG isArg subH retP resAV resL res1 AV.frz AV.frz.frzL evL AV.ren AV.ren.renL Blk.ren renBs blksOf allSome nodupB onlyArgs blksMents callUps keyed inName inName.go backName callSide
theorem lexlt_at : ∀ (u v : Row) (i : Nat) (a b : ByteArray), lexlt u v → u.take i = v.take i → u[i]? = some a → v[i]? = some b → a ≠ b → blt a b
  | [], _, _, _, _, h, _, _, _, _ => h.elim
  | _ :: _, [], _, _, _, h, _, _, _, _ => h.elim
  | x :: u, y :: v, 0, a, b, h, _, ha, hb, hne => by
    simp at ha hb
    subst ha hb
    rcases h with h | ⟨e, _⟩
    · exact h
    · exact absurd e hne
  | x :: u, y :: v, i + 1, a, b, h, ht, ha, hb, hne => by
    simp at ha hb ht
    obtain ⟨rfl, ht⟩ := ht
    rcases h with h | ⟨_, h⟩
    · exact absurd h (blt_irrefl x)
    · exact lexlt_at u v i a b h ht ha hb hne
theorem has_tame {e : E} (he : Tame e) (w : Row) : e.has w = true ↔ e.L w := has_iff (tame_right he) w
theorem has_dif {e f : E} (he : Tame e) (hf : Tame f) {w : Row} (h : e.has w ≠ f.has w) : Dif e f true w := by
  have h1 := has_tame he w
  have h2 := has_tame hf w
  unfold Dif
  rw [← h1, ← h2]
  cases h3 : e.has w <;> cases h4 : f.has w <;> simp_all
/-- What is told apart by a row is told apart by one that is not behind it. -/
theorem apart_word {e f : E} (he : Tame e) (hf : Tame f) {w : Row} (h : e.has w ≠ f.has w) : (apartR e f true).2 = true ∧ sle (apartR e f true).1 w := by
  have hD := has_dif he hf h
  have ht : (apartR e f true).2 = true := by
    cases hb : (apartR e f true).2 with
    | true => rfl
    | false => exact absurd hD (apartR_false hb w)
  exact ⟨ht, not_slt fun hlt => (apartR_least he.1 hf.1 ht).2 w hlt hD⟩
theorem dfa_acc {e : E} (he : Tame e) (w : Row) : e.dfa.acc (e.dfa.run 0 w) = true ↔ e.L w := by
  obtain ⟨l1, m1⟩ := dfa_least he.1 he.2
  exact (sem_has l1.sem.toSem0 w).trans (m1 w)
theorem c24 {e : E} (hs : e.small) (w : Row) (hw : w.length ≤ 4000000000000) : Fun Tryz.prog tab10 24 [e.av, .pv (namesV w)] [] (vB (e.has w)) [] := f20 tab10 e hs w (by simp only [maxLen]; omega)
attribute [local simp] T6
set_option maxRecDepth 20000 in
set_option maxHeartbeats 4000000 in
theorem h5 (e : E) (hs : e.small) (hc : e.cnt ≤ 1000000000) (f : E) (hsf : f.small) (hcf : f.cnt ≤ 1000000000) (w : List ByteArray) : Fun Tryz.prog tab10 5 [e.av, f.av, .pv (namesV w)] [] (vB true) [] := by
  have hof := @c17 e hs hc
  have hofF := @c17 f hsf hcf
  refine fun_of (T := T5) (n := 114) (rs := [.tmp 6]) Tryz.func5 (by kernel_rfl) rfl rfl rfl tok5 mixed (by simp) fun C hC => ?_
  refine hC.go [] 60 ?_
  simp [E.av, E.cells]
  refine hC.call [] h15 (by simp) ?_
  refine hC.go [] 60 ?_
  simp
  refine hC.call [] (f18 tab10 e hs) (by simp [E.av, E.cells]) ?_
  cases hr : e.right with
  | false =>
    refine hC.go [] 60 ?_
    simp
  | true =>
    refine hC.go [] 60 ?_
    simp
    refine hC.call [] (f18 tab10 f hsf) (by simp [E.av, E.cells]) ?_
    cases hrf : f.right with
    | false =>
      refine hC.go [] 60 ?_
      simp
    | true =>
      by_cases h30 : 30 < (w.length : Int)
      · refine hC.go [] 60 ?_
        simp [h30]
      · have he := right_tame hr hc
        have hf := right_tame hrf hcf
        replace hof := hof hr
        replace hofF := hofF hrf
        have aab := c22 he hf
        have aba := c22 hf he
        rw [apartR_comm f e] at aba
        have hwe := c24 hs w (by omega)
        have hwf := c24 hsf w (by omega)
        have hword : e.has w ≠ f.has w → (apartR e f true).2 = true ∧ sle (apartR e f true).1 w := apart_word he hf
        generalize apartR e f true = r at aab aba hword
        obtain ⟨row, ap⟩ := r
        dsimp only at aab aba hword
        generalize e.dfa = a at hof aab aba
        generalize f.dfa = b at hofF aab aba
        generalize e.has w = he1 at hwe hword
        generalize f.has w = hf1 at hwf hword
        refine hC.go [] 60 ?_
        simp [h30]
        refine hC.call [] hof (by simp [E.av, E.cells, Au.av, Au.cells]) ?_
        refine hC.go [] 60 ?_
        simp [E.cells, Au.av, Au.cells]
        refine hC.call [] hofF (by simp [E.av, E.cells, Au.av, Au.cells]) ?_
        refine hC.go [] 60 ?_
        simp [E.cells, Au.av, Au.cells]
        refine hC.call [] aab (by simp [Au.av, Au.cells]) ?_
        refine hC.go [] 60 ?_
        simp [E.cells, Au.av, Au.cells]
        refine hC.call [] aba (by simp [Au.av, Au.cells]) ?_
        refine hC.go [] 60 ?_
        simp [E.cells, Au.av, Au.cells]
        refine hC.call [] (h23 tab10 row row) (by simp) ?_
        refine hC.go [] 60 ?_
        simp [E.cells, Au.av, Au.cells]
        refine hC.drawn (by kernel_rfl) (by simp [E.cells]) ?_
        refine hC.go [] 60 ?_
        simp [E.cells, Au.av, Au.cells]
        refine hC.call [] hwe (by simp [E.av, E.cells]) ?_
        refine hC.go [] 60 ?_
        simp [E.cells, Au.av, Au.cells]
        refine hC.call [] hwf (by simp [E.av, E.cells]) ?_
        by_cases hee : he1 = hf1
        · refine hC.go [] 60 ?_
          simp [hee]
        · have hbe : (he1 == hf1) = false := by cases he1 <;> cases hf1 <;> simp_all
          obtain ⟨hap, hsle⟩ := hword hee
          subst hap
          have hlen : ¬ (w.length : Int) < (row.length : Int) := by
            rcases hsle with rfl | hlt | ⟨heq, _⟩ <;> omega
          refine hC.til [14] [] 60 ?_
          simp [hbe, hlen]
          refine go_len 2 1 (w.map fun s => [.val (.string s)]) (by simp) fun hwl => ?_
          rw [List.length_map] at hwl
          refine hC.go [] 60 ?_
          simp
          by_cases heq : (row.length : Int) = w.length
          · have heqn : row.length = w.length := by omega
            have hlex : row = w ∨ lexlt row w := by
              rcases hsle with rfl | hlt | ⟨_, h⟩
              · exact .inl rfl
              · omega
              · exact .inr h
            refine go_loop (ι := {i : Nat // i ≤ w.length ∧ row.take i = w.take i}) (fun x => ⟨[(2, .pv (namesV w)), (12, .pv (namesV row)), (16, vI x.1)], []⟩) (fun x => w.length - x.1) ⟨0, by simp⟩ [] (by simp) fun x ih => ?_
            obtain ⟨i, hi, hn⟩ := x
            simp only at hi hn ih
            by_cases hlt : i < w.length
            · have hlt2 : i < row.length := by omega
              have hw1 := wr64 ((i : Int) + 1) (by omega)
              refine hC.go [] 60 ?_
              simp [hlt, heq]
              refine hC.drawn (by kernel_rfl) (by simp) ?_
              by_cases hne : row[i] = w[i]
              · refine hC.go [] 60 ?_
                simp [hlt, hlt2, hne]
                exact go_to [] (ih ⟨i + 1, hlt, (take_more hlt2 hlt).2 ⟨hn, hne⟩⟩ (by simp; omega)) (by simp [hw1])
              · have hl : lexlt row w := hlex.resolve_left fun q => hne (by subst q; rfl)
                have hb := (less_blt _ _).2 (lexlt_at row w i _ _ hl hn (List.getElem?_eq_getElem hlt2) (List.getElem?_eq_getElem hlt) hne)
                refine hC.til [10] [] 60 ?_
                simp [hlt, hlt2, hne]
                refine hC.drawn (by kernel_rfl) (by simp) ?_
                refine hC.go [] 60 ?_
                simp [hlt, hlt2, hb]
            · refine hC.go [] 60 ?_
              simp [hlt]
          · refine go_loop (ι := Unit) (fun x => ⟨[(2, .pv (namesV w)), (12, .pv (namesV row)), (16, vI 0)], []⟩) (fun x => 0) () [] (by simp) fun x ih => ?_
            have heqn : ¬ row.length = w.length := by omega
            refine hC.go [] 60 ?_
            by_cases h0 : 0 < (w.length : Int)
            · have h0n : 0 < w.length := by omega
              simp [heq, h0, heqn, h0n]
            · have h0n : ¬ 0 < w.length := by omega
              simp [heq, h0, heqn, h0n]
end Go.Proofs.D
/-
  THE LAW DfaMeans.
-/
set_option linter.unusedVariables false
set_option linter.unusedSimpArgs false
namespace Go.Proofs.D
open Go Go.Abs Go.RowKit
attribute [local simp] VC VCS stepVS stepTopS firstId memN bigB unmark markT mkOff calmP keepT boundB boundC stepV stepTop stepReg stepOp stMove stPick stBin stUn stConv stBox stAlloc stLoad stStore stFieldAddr stField stExtract stNilCheck stMakeFunc stIndexAddr stIndex stLen
  stBuild placesOf fillA stBuildSlice sliceCells repL chunks allPV toPV drawOk drawOk.go mayMakeO mayMake1 disjoint pairS Oper.apart Oper.looksAt Op.operands Call.operands Region.binds stAppend appBase appTail unName stSlice bndA
  LS.ev LS.get LS.blk LS.put LS.app LS.upd lkS lkH setS setH Nm.eqb guardOf nexts okPair dstOk AV.cellsOf takeAt putAt lkT sliceE fieldT intK isStrT isBoolT abin newOk LS.freshB LS.freshB.go LS.freshB.goH notIn AV.ments AV.ments.mentsL Blk.ments makes upsMents LS.start startL exitTo T T5 outs callSideR callSideO callSideD upsR backO freshAll argB onlyIO List.map List.append List.nil_append List.cons_append Nat.blt
  conv convS convH srcs srcOf blkOk leA leA.leL Go.Abs.leB leP laid laidM laidG isArg subH retP resAV resL res1 AV.frz AV.frz.frzL evL AV.ren AV.ren.renL Blk.ren renBs blksOf allSome nodupB onlyArgs blksMents callUps keyed inName inName.go backName callSide
theorem c19 {e : E} (he : Tame e) (w : Row) : Fun Tryz.prog tab10 19 [e.dfa.av, .pv (namesV w)] [] (vB (e.has w)) [] := by
  have := h19 tab10 e.dfa (dfa_least he.1 he.2).1.sem.row w
  rwa [show e.dfa.acc (e.dfa.run 0 w) = e.has w by rw [Bool.eq_iff_iff, dfa_acc he, has_tame he]] at this
theorem apart_has {e f : E} (he : Tame e) (hf : Tame f) (h : (apartR e f true).2 = true) : e.has (apartR e f true).1 ≠ f.has (apartR e f true).1 ∧ sameB e f = false := by
  refine ⟨fun q => ?_, by rw [← apart_same, h]; rfl⟩
  have h1 := has_tame he (apartR e f true).1
  have h2 := has_tame hf (apartR e f true).1
  have hD := (apartR_least he.1 hf.1 h).1
  unfold Dif at hD
  rw [← h1, ← h2, q] at hD
  simp at hD
theorem apart_not {e f : E} (he : Tame e) (hf : Tame f) (h : (apartR e f true).2 = false) (w : Row) : sameB e f = true ∧ withB e f = true ∧ withB f e = true ∧ e.has w = f.has w := by
  have hs : sameB e f = true := by rw [← apart_same, h]; rfl
  have hw := hs
  rw [same_within, Bool.and_eq_true] at hw
  refine ⟨hs, hw.1, hw.2, ?_⟩
  rw [Bool.eq_iff_iff, has_tame he, has_tame hf]
  exact same_iff.1 hs w
attribute [local simp] T6
set_option maxRecDepth 20000 in
set_option maxHeartbeats 4000000 in
theorem h9 (e : E) (hs : e.small) (hc : e.cnt ≤ 1000000000) (f : E) (hsf : f.small) (hcf : f.cnt ≤ 1000000000) (w : List ByteArray) : Fun Tryz.prog tab10 9 [e.av, f.av, .pv (namesV w)] [] (vB true) [] := by
  have hof := @c17 e hs hc
  have hofF := @c17 f hsf hcf
  refine fun_of (T := T5) (n := 101) (rs := [.tmp 6]) Tryz.func9 (by kernel_rfl) rfl rfl rfl tok5 mixed (by simp) fun C hC => ?_
  refine hC.go [] 60 ?_
  simp [E.av, E.cells]
  refine hC.call [] h15 (by simp) ?_
  refine hC.go [] 60 ?_
  simp
  refine hC.call [] (f18 tab10 e hs) (by simp [E.av, E.cells]) ?_
  cases hr : e.right with
  | false =>
    refine hC.go [] 60 ?_
    simp
  | true =>
    refine hC.go [] 60 ?_
    simp
    refine hC.call [] (f18 tab10 f hsf) (by simp [E.av, E.cells]) ?_
    cases hrf : f.right with
    | false =>
      refine hC.go [] 60 ?_
      simp
    | true =>
      by_cases h30 : 30 < (w.length : Int)
      · refine hC.go [] 60 ?_
        simp [h30]
      · have he := right_tame hr hc
        have hf := right_tame hrf hcf
        replace hof := hof hr
        replace hofF := hofF hrf
        have aab := c22 he hf
        have hwe := c24 hs w (by omega)
        have hwf := c24 hsf w (by omega)
        have dwe := c19 he w
        have dwf := c19 hf w
        have hlen : (apartR e f true).1.length ≤ 4000000000000 := Nat.le_trans (apartR_len he.2 hf.2 he.1 hf.1 true) (by decide)
        have hre := c24 hs (apartR e f true).1 hlen
        have hrf := c24 hsf (apartR e f true).1 hlen
        have sab := c25 he hf
        have wab := c26 he hf
        have wba := c26 hf he
        have p1 : (apartR e f true).2 = true → e.has (apartR e f true).1 ≠ f.has (apartR e f true).1 ∧ sameB e f = false := fun q => apart_has he hf q
        have p2 : (apartR e f true).2 = false → sameB e f = true ∧ withB e f = true ∧ withB f e = true ∧ e.has w = f.has w := fun q => apart_not he hf q w
        generalize e.has (apartR e f true).1 = hre1 at hre p1
        generalize f.has (apartR e f true).1 = hrf1 at hrf p1
        generalize apartR e f true = r at aab hlen p1 p2 hre hrf
        obtain ⟨row, ap⟩ := r
        dsimp only at aab hlen p1 p2 hre hrf
        generalize sameB e f = Sab at sab p1 p2
        generalize withB e f = Wab at wab p2
        generalize withB f e = Wba at wba p2
        generalize e.dfa = a at hof aab dwe sab wab wba
        generalize f.dfa = b at hofF aab dwf sab wab wba
        generalize e.has w = he1 at hwe dwe p2
        generalize f.has w = hf1 at hwf dwf p2
        have be : (he1 == he1) = true := by simp
        have bf : (hf1 == hf1) = true := by simp
        refine hC.go [] 60 ?_
        simp [h30]
        refine hC.call [] hof (by simp [E.av, E.cells, Au.av, Au.cells]) ?_
        refine hC.go [] 60 ?_
        simp [E.cells, Au.av, Au.cells]
        refine hC.call [] hofF (by simp [E.av, E.cells, Au.av, Au.cells]) ?_
        refine hC.go [] 60 ?_
        simp [E.cells, Au.av, Au.cells]
        refine hC.drawn (by kernel_rfl) (by simp [E.cells, Au.cells]) ?_
        refine hC.go [] 60 ?_
        simp [E.cells, Au.av, Au.cells]
        refine hC.call [] dwe (by simp [Au.av, Au.cells]) ?_
        refine hC.go [] 60 ?_
        simp [E.cells, Au.av, Au.cells]
        refine hC.call [] hwe (by simp [E.av, E.cells]) ?_
        refine hC.go [] 60 ?_
        simp [E.cells, Au.av, Au.cells]
        refine hC.call [] dwf (by simp [Au.av, Au.cells]) ?_
        refine hC.go [] 60 ?_
        simp [E.cells, Au.av, Au.cells]
        refine hC.call [] hwf (by simp [E.av, E.cells]) ?_
        refine hC.go [] 60 ?_
        simp [E.cells, Au.av, Au.cells]
        refine hC.call [] aab (by simp [Au.av, Au.cells]) ?_
        cases ap with
        | true =>
          obtain ⟨hne, hsf⟩ := p1 rfl
          subst hsf
          have hb : (hre1 == hrf1) = false := by cases hre1 <;> cases hrf1 <;> first | rfl | exact absurd rfl hne
          refine hC.go [] 60 ?_
          simp [E.cells, Au.av, Au.cells]
          refine hC.drawn (by kernel_rfl) (by simp [E.cells, Au.cells]) ?_
          refine hC.go [] 60 ?_
          simp [E.cells, Au.av, Au.cells]
          refine hC.call [] hre (by simp [E.av, E.cells]) ?_
          refine hC.go [] 60 ?_
          simp [E.cells, Au.av, Au.cells]
          refine hC.call [] hrf (by simp [E.av, E.cells]) ?_
          refine hC.go [] 60 ?_
          simp [E.cells, Au.av, Au.cells, hb]
          refine hC.call [] sab (by simp [Au.av, Au.cells]) ?_
          refine hC.go [] 60 ?_
          simp [E.cells, Au.av, Au.cells, hb]
        | false =>
          obtain ⟨q1, q2, q3, q4⟩ := p2 rfl
          subst q1
          subst q2
          subst q3
          subst q4
          refine hC.go [] 60 ?_
          simp [E.cells, Au.av, Au.cells]
          refine hC.drawn (by kernel_rfl) (by simp [E.cells, Au.cells]) ?_
          refine hC.go [] 60 ?_
          simp [E.cells, Au.av, Au.cells]
          refine hC.call [] sab (by simp [Au.av, Au.cells]) ?_
          refine hC.go [] 60 ?_
          simp [E.cells, Au.av, Au.cells]
          refine hC.call [] wab (by simp [Au.av, Au.cells]) ?_
          refine hC.go [] 60 ?_
          simp [E.cells, Au.av, Au.cells]
          refine hC.call [] wba (by simp [Au.av, Au.cells]) ?_
          refine hC.go [] 60 ?_
          simp [E.cells, Au.av, Au.cells]
          refine hC.call [] hwe (by simp [E.av, E.cells]) ?_
          refine hC.go [] 60 ?_
          simp [E.cells, Au.av, Au.cells]
          refine hC.call [] hwf (by simp [E.av, E.cells]) ?_
          refine hC.go [] 60 ?_
          simp [E.cells, Au.av, Au.cells]
end Go.Proofs.D
