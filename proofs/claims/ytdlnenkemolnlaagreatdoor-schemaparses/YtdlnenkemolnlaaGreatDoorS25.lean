/-
  THE ANSWER TO CHAPTER 8: a schema is read, line by line.
-/
import Derived.Test.YtdlnenkemolnlaaGreatDoorS23
set_option linter.unusedVariables false
set_option linter.unusedSimpArgs false
namespace Go.Proofs.D
open Go Go.Abs Go.RowKit
attribute [local simp] VC VCS stepVS stepTopS firstId memN bigB unmark markT mkOff calmP keepT boundB stepV stepTop stepReg stepOp stMove stPick stBin stUn stConv stBox stAlloc stLoad stStore stFieldAddr stField stExtract stNilCheck stMakeFunc stIndexAddr stIndex stLen
  stBuild placesOf fillA stBuildSlice sliceCells repL chunks allPV toPV drawOk drawOk.go mayMakeO mayMake1 disjoint pairOk Oper.apart Oper.looksAt Op.operands Call.operands Region.binds stAppend appBase appTail unName stSlice bndA
  LS.ev LS.get LS.blk LS.put LS.app LS.upd lkS lkH setS setH Nm.eqb guardOf nexts okPair dstOk AV.cellsOf takeAt putAt lkT sliceE fieldT intK isStrT isBoolT abin newOk LS.freshB LS.freshB.go LS.freshB.goH notIn AV.ments AV.ments.mentsL Blk.ments makes upsMents LS.start startL exitTo T T3 T4 outs callSideR callSideO callSideD upsR backO freshAll argB onlyIO List.map List.append List.nil_append List.cons_append Nat.blt
  conv convS convH srcs srcOf blkOk leA leA.leL Go.Abs.leB leP laid laidM laidG isArg subH retP resAV resL res1 AV.frz AV.frz.frzL evL AV.ren AV.ren.renL Blk.ren renBs blksOf allSome nodupB onlyArgs blksMents callUps keyed inName inName.go backName callSide
abbrev LinesI (T : List Bs) := {x : Nat × List Kd × List ByteArray // x.1 ≤ T.length ∧ linesR [] [] T = linesR x.2.1 x.2.2 (T.drop x.1) ∧ x.2.1.length ≤ x.1 ∧ (∀ k ∈ x.2.1, k.fit ∧ (lineK k).length ≤ 9000000) ∧ x.2.2.length ≤ x.1 ∧ ∀ m ∈ x.2.2, m.size ≤ 2000}
theorem lines_bytes (ks : List Kd) (ms : List ByteArray) (h1 : ks.length ≤ 60) (h2 : ∀ k ∈ ks, k.fit ∧ (lineK k).length ≤ 9000000) (h3 : ms.length ≤ 60) (h4 : ∀ m ∈ ms, m.size ≤ 2000) : (Sc.mk ks ms).fit ∧ (Sc.mk ks ms).bytes.length ≤ 1000000000 := by
  have hM : M47 = 140737488355328 := rfl
  refine ⟨⟨fun k hk => (h2 k hk).1, fun m hm => by have := h4 m hm; omega⟩, ?_⟩
  have g1 := flat_bound lineK 9000000 ks fun k hk => (h2 k hk).2
  have g2 := flat_bound lineM 2006 ms fun m hm => by
    have := h4 m hm
    have e : m.data.toList.length = m.size := Array.length_toList
    simp only [lineM, markS, List.length_append, List.length_cons, List.length_nil]
    omega
  have g3 : ks.length * 9000000 ≤ 60 * 9000000 := Nat.mul_le_mul_right _ h1
  have g4 : ms.length * 2006 ≤ 60 * 2006 := Nat.mul_le_mul_right _ h3
  simp only [Sc.bytes, List.length_append]
  omega
theorem isN_long {p l : Bs} (h : 5 < l.length) : isN p l = preB p l := by simp [isN, h]
theorem isN_short {p l : Bs} (h : ¬ 5 < l.length) : isN p l = false := by simp [isN, h]
theorem pre5 {p l : Bs} (hp : p.length = 5) : preB p l = true ↔ bs (l.take 5) = bs p := by
  rw [preB, hp, decide_eq_true_iff]
  exact ⟨fun h => by rw [h], fun h => by rw [← bs_list (l.take 5), h, bs_list]⟩
set_option maxRecDepth 20000 in
set_option maxHeartbeats 8000000 in
theorem g30 (Gl : Granted) (t : Bs) (ht : t.length ≤ 2000) : Fun Tryz.prog Gl 30 [vS (bs t)] [] (.tup [(rschema t).1.av, vI (rschema t).2]) [] := by
  have hM : M47 = 140737488355328 := rfl
  have hrs : ∀ ks ms, linesR [] [] ((splitC 10 t).take 60) = (ks, ms) → rschema t = if (Sc.mk ks ms).print.2 = 0 ∧ (Sc.mk ks ms).print.1 = bs t then (⟨ks, ms⟩, 0) else (s0, 2) := fun ks ms h => by unfold rschema; rw [h]
  have c10 : ((10 : UInt8).toNat : Int) = 10 := rfl
  have hcut := g66 Gl t 10 10 c10.symm (by omega)
  have hLl := splitC_len 10 t
  have hLm := splitC_many 10 t
  generalize splitC 10 t = L at hrs hcut hLl hLm
  obtain ⟨T, hT⟩ : ∃ T, L.take 60 = T := ⟨_, rfl⟩
  have hTl : T.length = min 60 L.length := by rw [← hT, List.length_take]
  rw [hT] at hrs
  have hnp : bs nodeS = ⟨#[110, 111, 100, 101, 32]⟩ := rfl
  have hmp : bs markS = ⟨#[109, 97, 114, 107, 32]⟩ := rfl
  refine fun_of (T := T4) (n := 84) (rs := [.cell 2 48, .tmp 3]) Tryz.func30 (by kernel_rfl) rfl rfl rfl tok4 mixed (by simp) fun C hC => ?_
  refine hC.go [] 90 ?_
  simp
  refine hC.call [] hcut (by simp) ?_
  refine hC.go [] 90 ?_
  simp
  refine go_loop (ι := LinesI T)
    (fun x => ⟨[(0, vS (bs t)), (2, .ptr (.loc 2) 0), (4, .ptr (.loc 4) 0), (5, .pv (strs (L.map bs))), (6, vI x.1.1)],
      [(.loc 2, some (.box 48 [.pv (.nilS 5), .pv (.nilS 1)])), (.loc 4, some (.box 48 [.own (.can 0), .own (.can 1)])), (.can 0, some (.row 123 5 (x.1.2.1.map Kd.pv))), (.can 1, some (.row 9 1 (x.1.2.2.map fun s => [.val (.string s)])))]⟩)
    (fun x => T.length - x.1.1) ⟨(0, [], []), by simp⟩ [(.can 0, .nil), (.can 1, .nil)] (by simp) fun x ih => ?_
  obtain ⟨⟨i, ks, ms⟩, hi, hn, hkl, hkf, hml, hmf⟩ := x
  simp only at hi hn hkl hkf hml hmf ih
  by_cases hlt : i < T.length
  · have hltL : i < L.length := by omega
    have hltI : (i : Int) < L.length := by omega
    have hi60 : (i : Int) < 60 := by omega
    have hi60n : i < 60 := by omega
    have hw1 := wr64 ((i : Int) + 1) (by omega)
    obtain ⟨l, hl⟩ : ∃ l, L[i] = l := ⟨_, rfl⟩
    have hlT : T[i] = l := by subst hT; rw [← hl]; simp
    have hll : l.length ≤ t.length := hLl l (by rw [← hl]; simp)
    have hdl : (l.drop 5).length ≤ 2000 := by rw [List.length_drop]; omega
    rw [tail_take T i hlt, hlT] at hn
    simp only [linesR] at hn
    by_cases h5n : 5 < l.length
    · have h5 : 5 < (l.length : Int) := by omega
      have h5a : 5 ≤ l.length := by omega
      have h5b : (5 : Int) ≤ l.length := by omega
      rw [isN_long h5n, isN_long h5n] at hn
      have pn := pre5 (p := nodeS) (l := l) rfl
      have pm := pre5 (p := markS) (l := l) rfl
      rw [hnp] at pn
      rw [hmp] at pm
      cases hnode : preB nodeS l with
      | true =>
        have hmark := node_mark hnode
        rw [hnode] at pn
        rw [hmark] at pm
        have hq : (bs (l.take 5) = ⟨#[110, 111, 100, 101, 32]⟩) = True := eq_true (pn.1 rfl)
        have hm : ¬ bs (l.take 5) = ⟨#[109, 97, 114, 107, 32]⟩ := fun e => by cases pm.2 e
        rw [hnode, hmark, if_pos rfl, if_neg (by decide)] at hn
        have hks := readK_small (l.drop 5) hdl
        have hck := g67 Gl (l.drop 5) (by omega)
        generalize readK (l.drop 5) = k at hn hck hks
        refine hC.go [] 90 ?_
        simp [hltL, hi60, hi60n, hl, h5, h5n, h5a, h5b, bsl, ext0, extL, hq]
        refine hC.drawn (by kernel_rfl) (by simp) ?_
        refine hC.go [] 90 ?_
        simp [hltL, hl, h5, h5n, h5a, h5b, bsl, ext0, extL]
        refine hC.call [] hck (by simp [Kd.av, Kd.cells, E.cells]) ?_
        refine hC.go [] 90 ?_
        simp [Kd.av, Kd.cells, E.cells, hltL, hl, h5, h5n, h5a, h5b, bsl, ext0, extL, hm]
        refine ⟨by omega, ?_⟩
        exact go_to [(.can 0, .nm (.loc 44))] (ih ⟨(i + 1, ks ++ [k], ms), hlt, hn, by simp; omega, fun x hx => by
          rcases List.mem_append.1 hx with hx | hx
          · exact hkf x hx
          · simp at hx; rw [hx]; exact hks, by dsimp only; omega, hmf⟩ (by simp; omega)) (by simp [hw1, Kd.pv_eq, E.pv_eq])
      | false =>
        rw [hnode] at pn
        have hq : ¬ bs (l.take 5) = ⟨#[110, 111, 100, 101, 32]⟩ := fun e => by cases pn.2 e
        rw [hnode, if_neg (by decide)] at hn
        cases hmark : preB markS l with
        | true =>
          rw [hmark] at pm hn
          have hm : (bs (l.take 5) = ⟨#[109, 97, 114, 107, 32]⟩) = True := eq_true (pm.1 rfl)
          rw [if_pos rfl] at hn
          refine hC.go [] 90 ?_
          simp [hltL, hi60, hi60n, hl, h5, h5n, h5a, h5b, bsl, ext0, extL, hq, hm]
          refine hC.drawn (by kernel_rfl) (by simp) ?_
          refine hC.go [] 90 ?_
          simp [hltL, hl, h5, h5n, h5a, h5b, bsl, ext0, extL]
          refine ⟨by omega, ?_⟩
          exact go_to [(.can 1, .nm (.loc 68))] (ih ⟨(i + 1, ks, ms ++ [bs (l.drop 5)]), hlt, hn, by dsimp only; omega, hkf, by simp; omega, fun m hm => by
            rcases List.mem_append.1 hm with hm | hm
            · exact hmf m hm
            · simp at hm; rw [hm, bsize]; exact hdl⟩ (by simp; omega)) (by simp [hw1])
        | false =>
          rw [hmark] at pm hn
          have hm : ¬ bs (l.take 5) = ⟨#[109, 97, 114, 107, 32]⟩ := fun e => by cases pm.2 e
          rw [if_neg (by decide)] at hn
          refine hC.go [] 90 ?_
          simp [hltL, hi60, hi60n, hl, h5, h5n, h5a, h5b, bsl, ext0, extL, hq, hm]
          exact go_to [] (ih ⟨(i + 1, ks, ms), hlt, hn, by dsimp only; omega, hkf, by dsimp only; omega, hmf⟩ (by simp; omega)) (by simp [hw1])
    · have h5 : ¬ 5 < (l.length : Int) := by omega
      rw [isN_short h5n, isN_short h5n, if_neg (by decide), if_neg (by decide)] at hn
      refine hC.go [] 90 ?_
      simp [hltL, hi60, hi60n, hl, h5, h5n, bsl]
      exact go_to [] (ih ⟨(i + 1, ks, ms), hlt, hn, by dsimp only; omega, hkf, by dsimp only; omega, hmf⟩ (by simp; omega)) (by simp [hw1])
  · rw [List.drop_eq_nil_of_le (by omega)] at hn
    simp only [linesR] at hn
    have hsp := hrs ks ms hn
    obtain ⟨hfit, hbytes⟩ := lines_bytes ks ms (by omega) hkf (by omega) hmf
    have hcp := g20 Gl (Sc.mk ks ms) hfit (by dsimp only; omega) (by dsimp only; omega) (fun _ => hbytes)
    have hav : (Sc.mk ks ms).av = .agg [.pv (kds ks), .pv (strs ms)] := rfl
    rw [hav] at hcp
    generalize (Sc.mk ks ms).print = pr at hcp hsp
    obtain ⟨pt, pe⟩ := pr
    simp only at hcp hsp
    have hexit : ¬ (i < L.length) ∨ (i < L.length ∧ ¬ (i : Int) < 60 ∧ ¬ i < 60) := by omega
    refine hC.til [10] [] 60 ?_
    rcases hexit with hx | ⟨hx, hx', hx''⟩
    all_goals
      first | simp [hx, hx', hx''] | simp [hx]
      refine go_to (M := ⟨[(0, vS (bs t)), (2, .ptr (.loc 2) 0), (4, .ptr (.loc 4) 0)], [(.loc 2, some (.box 48 [.pv (.nilS 5), .pv (.nilS 1)])), (.loc 4, some (.box 48 [.pv (kds ks), .pv (strs ms)]))]⟩) [] (hC.go [] 90 ?_) (by simp)
      simp
      refine hC.call [] hcp (by simp) ?_
      by_cases he : pe = 0
      · by_cases hp : pt = bs t
        · rw [if_pos ⟨he, hp⟩] at hsp
          rw [hsp] at hC
          refine hC.go [] 90 ?_
          simp [he, hp, Sc.av, Sc.cells]
        · rw [if_neg (fun h => hp h.2)] at hsp
          rw [hsp] at hC
          refine hC.go [] 90 ?_
          simp [he, hp, s0, Sc.av, Sc.cells]
      · rw [if_neg (fun h => he h.1)] at hsp
        rw [hsp] at hC
        refine hC.go [] 90 ?_
        simp [he, s0, Sc.av, Sc.cells]
end Go.Proofs.D
/-
  SchemaParses: the schema of a text, as the chapter says.
-/
set_option linter.unusedVariables false
set_option linter.unusedSimpArgs false
namespace Go.Proofs.D
open Go Go.Abs Go.RowKit
attribute [local simp] VC VCS stepVS stepTopS firstId memN bigB unmark markT mkOff calmP keepT boundB stepV stepTop stepReg stepOp stMove stPick stBin stUn stConv stBox stAlloc stLoad stStore stFieldAddr stField stExtract stNilCheck stMakeFunc stIndexAddr stIndex stLen
  stBuild placesOf fillA stBuildSlice sliceCells repL chunks allPV toPV drawOk drawOk.go mayMakeO mayMake1 disjoint pairOk Oper.apart Oper.looksAt Op.operands Call.operands Region.binds stAppend appBase appTail unName stSlice bndA
  LS.ev LS.get LS.blk LS.put LS.app LS.upd lkS lkH setS setH Nm.eqb guardOf nexts okPair dstOk AV.cellsOf takeAt putAt lkT sliceE fieldT intK isStrT isBoolT abin newOk LS.freshB LS.freshB.go LS.freshB.goH notIn AV.ments AV.ments.mentsL Blk.ments makes upsMents LS.start startL exitTo T T3 T4 outs callSideR callSideO callSideD upsR backO freshAll argB onlyIO List.map List.append List.nil_append List.cons_append Nat.blt
  conv convS convH srcs srcOf blkOk leA leA.leL Go.Abs.leB leP laid laidM laidG isArg subH retP resAV resL res1 AV.frz AV.frz.frzL evL AV.ren AV.ren.renL Blk.ren renBs blksOf allSome nodupB onlyArgs blksMents callUps keyed inName inName.go backName callSide
theorem linesR_fit : ∀ (L : List Bs) (ks : List Kd) (ms : List ByteArray), (∀ l ∈ L, l.length ≤ 2000) → (∀ k ∈ ks, k.fit ∧ (lineK k).length ≤ 9000000) → (∀ m ∈ ms, m.size ≤ 2000) →
    (∀ k ∈ (linesR ks ms L).1, k.fit ∧ (lineK k).length ≤ 9000000) ∧ (∀ m ∈ (linesR ks ms L).2, m.size ≤ 2000) ∧ (linesR ks ms L).1.length ≤ ks.length + L.length ∧ (linesR ks ms L).2.length ≤ ms.length + L.length
  | [], ks, ms, _, h2, h3 => ⟨h2, h3, Nat.le_refl _, Nat.le_refl _⟩
  | l :: L, ks, ms, h1, h2, h3 => by
    simp only [linesR]
    have hl := h1 l (by simp)
    have hdl : (l.drop 5).length ≤ 2000 := by rw [List.length_drop]; omega
    obtain ⟨a, b, c, d⟩ := linesR_fit L (if isN nodeS l = true then ks ++ [readK (l.drop 5)] else ks) (if isN markS l = true then ms ++ [bs (l.drop 5)] else ms) (fun x hx => h1 x (by simp [hx]))
      (fun k hk => by
        split at hk
        · rcases List.mem_append.1 hk with hk | hk
          · exact h2 k hk
          · simp at hk; rw [hk]; exact readK_small _ hdl
        · exact h2 k hk)
      (fun m hm => by
        split at hm
        · rcases List.mem_append.1 hm with hm | hm
          · exact h3 m hm
          · simp at hm; rw [hm, bsize]; exact hdl
        · exact h3 m hm)
    refine ⟨a, b, Nat.le_trans c ?_, Nat.le_trans d ?_⟩
    · split <;> simp <;> omega
    · split <;> simp <;> omega
theorem rschema_fit (t : Bs) (ht : t.length ≤ 2000) : (rschema t).1.fit ∧ (rschema t).1.kinds.length ≤ 60 ∧ (rschema t).1.marks.length ≤ 60 ∧ (rschema t).1.bytes.length ≤ 1000000000 := by
  have hl := splitC_len 10 t
  obtain ⟨a, b, c, d⟩ := linesR_fit ((splitC 10 t).take 60) [] [] (fun l h => by have := hl l (List.mem_of_mem_take h); omega) (fun k h => by cases h) (fun m h => by cases h)
  have h60 : ((splitC 10 t).take 60).length ≤ 60 := by rw [List.length_take]; omega
  unfold rschema
  split
  · simp only [List.length_nil, Nat.zero_add] at c d
    obtain ⟨e, f⟩ := lines_bytes _ _ (by omega) a (by omega) b
    exact ⟨e, by dsimp only; omega, by dsimp only; omega, f⟩
  · exact ⟨⟨fun k h => (by cases h), fun m h => (by cases h)⟩, by decide, by decide, by decide⟩
set_option maxRecDepth 20000 in
theorem g31 (Gl : Granted) (s : Sc) (hf : s.fit) (hk : s.kinds.length ≤ 1000) (hm : s.marks.length ≤ 1000) (hb : s.bytes.length ≤ 1000000000) : Fun Tryz.prog Gl 31 [s.av, s.av] [] (vB true) [] := by
  have ha : ∀ k ∈ s.kinds, k.content.cnt ≤ 1000000 ∧ k.attrs.length ≤ 1000000 := fun k h => by
    obtain ⟨_, _, h1, h2, _⟩ := hf.1 k h
    omega
  refine fun_of (T := T4) (n := 46) (rs := [.tmp 4]) Tryz.func31 (by kernel_rfl) rfl rfl rfl tok4 mixed (by simp) fun C hC => ?_
  refine hC.go [] 60 ?_
  simp [Sc.av, Sc.cells]
  refine hC.call [] (g18 Gl s ha (by omega)) (by simp [Sc.av, Sc.cells]) ?_
  refine hC.go [] 60 ?_
  simp [Sc.av, Sc.cells]
  refine hC.call [] (g20 Gl s hf (by omega) (by omega) fun _ => hb) (by simp [Sc.av, Sc.cells]) ?_
  refine hC.go [] 60 ?_
  simp
  refine hC.call [] (g20 Gl s hf (by omega) (by omega) fun _ => hb) (by simp [Sc.av, Sc.cells]) ?_
  refine hC.go [] 60 ?_
  simp
set_option maxRecDepth 20000 in
set_option maxHeartbeats 2000000 in
theorem g5 (t : Bs) : Fun Tryz.prog tabs 5 [vS (bs t)] [] (vB true) [] := by
  refine fun_of (T := T4) (n := 35) (rs := [.tmp 2]) Tryz.func5 (by kernel_rfl) rfl rfl rfl tok4 mixed (by simp) fun C hC => ?_
  refine hC.go [] 60 ?_
  simp
  refine hC.call [] g16 (by simp) ?_
  by_cases h1 : 1500 < (t.length : Int)
  · refine hC.go [] 60 ?_
    simp [bsl, h1]
  · have hl : t.length ≤ 2000 := by omega
    obtain ⟨e1, _⟩ := sparse_eq t (by omega)
    have hp := g29 t hl
    obtain ⟨q1, q2, q3, q4⟩ := rschema_fit t hl
    have hr := g30 tabs t hl
    rw [← e1] at hp
    generalize rschema t = p at hp hr q1 q2 q3 q4
    obtain ⟨s, z⟩ := p
    simp only at hp hr q1 q2 q3 q4
    refine hC.go [] 60 ?_
    simp [bsl, h1]
    refine hC.call [] hp (by simp [Sc.av, Sc.cells]) ?_
    refine hC.go [] 60 ?_
    simp [Sc.av, Sc.cells]
    refine hC.call [] hr (by simp [Sc.av, Sc.cells]) ?_
    refine hC.go [] 60 ?_
    simp [Sc.av, Sc.cells]
    refine hC.call [] (g31 tabs s q1 (by omega) (by omega) q4) (by simp [Sc.av, Sc.cells]) ?_
    refine hC.go [] 60 ?_
    simp
end Go.Proofs.D
