/-
  THE ANSWER TO CHAPTER 6: the names of an expression.
-/
import Derived.Test.YtdlnenkemolnlaaGreatDoorU1
import Derived.Test.YtdlnenkemolnlaaGreatDoorB6
import Derived.Test.YtdlnenkemolnlaaGreatDoorD36
set_option linter.unusedVariables false
set_option linter.unusedSimpArgs false
namespace Go.Proofs.D
open Go Go.Abs Go.RowKit
attribute [local simp] VC VCS stepVS stepTopS firstId memN bigB unmark markT mkOff calmP keepT boundB stepV stepTop stepReg stepOp stMove stPick stBin stUn stConv stBox stAlloc stLoad stStore stFieldAddr stField stExtract stNilCheck stMakeFunc stIndexAddr stIndex stLen
  stBuild placesOf fillA stBuildSlice sliceCells repL chunks allPV toPV drawOk drawOk.go mayMakeO mayMake1 disjoint pairOk Oper.apart Oper.looksAt Op.operands Call.operands Region.binds stAppend appBase appTail unName stSlice bndA
  LS.ev LS.get LS.blk LS.put LS.app LS.upd lkS lkH setS setH Nm.eqb guardOf nexts okPair dstOk AV.cellsOf takeAt putAt lkT sliceE fieldT intK isStrT isBoolT abin newOk LS.freshB LS.freshB.go LS.freshB.goH notIn AV.ments AV.ments.mentsL Blk.ments makes upsMents LS.start startL exitTo T T3 T4 outs callSideR callSideO callSideD upsR backO freshAll argB onlyIO List.map List.append List.nil_append List.cons_append Nat.blt
  conv convS convH srcs srcOf blkOk leA leA.leL Go.Abs.leB leP laid laidM laidG isArg subH retP resAV resL res1 AV.frz AV.frz.frzL evL AV.ren AV.ren.renL Blk.ren renBs blksOf allSome nodupB onlyArgs blksMents callUps keyed inName inName.go backName callSide
instance memDec (s : ByteArray) (l : List ByteArray) : Decidable (s ∈ l) := @List.instDecidableMemOfLawfulBEq _ instBEqOfDecidableEq inferInstance s l
/-- A name among names that are in order. -/
def putL (s : ByteArray) : List ByteArray → Bool → List ByteArray
  | [], done => if done = true then [] else [s]
  | x :: l, done => if done = false ∧ Op.bytesLess s.toList x.toList = true then s :: x :: putL s l true else x :: putL s l done
def putR (l : List ByteArray) (s : ByteArray) : List ByteArray := if s ∈ l then l else putL s l false
theorem putL_mem (s x : ByteArray) : ∀ (l : List ByteArray) (b : Bool), x ∈ putL s l b ↔ x ∈ l ∨ (b = false ∧ x = s)
  | [], b => by cases b <;> simp [putL]
  | y :: l, b => by
    simp only [putL]
    split
    · rename_i h
      have := putL_mem s x l true
      simp only [List.mem_cons, this, h.1]
      simp
      constructor
      · rintro (h | h | h)
        · exact .inr h
        · exact .inl (.inl h)
        · exact .inl (.inr h)
      · rintro ((h | h) | h)
        · exact .inr (.inl h)
        · exact .inr (.inr h)
        · exact .inl h
    · have := putL_mem s x l b
      simp only [List.mem_cons, this, or_assoc]
theorem putL_len (s : ByteArray) : ∀ (l : List ByteArray) (b : Bool), (putL s l b).length ≤ l.length + 1
  | [], b => by cases b <;> simp [putL]
  | y :: l, b => by
    simp only [putL]
    split
    · have : ∀ l : List ByteArray, (putL s l true).length = l.length := by
        intro l
        induction l with
        | nil => simp [putL]
        | cons y l ih => simp [putL, ih]
      simp [this]
    · have := putL_len s l b
      simp only [List.length_cons]; omega
theorem putR_mem (l : List ByteArray) (s x : ByteArray) : x ∈ putR l s ↔ x ∈ l ∨ x = s := by
  unfold putR
  split
  · rename_i h
    constructor
    · exact .inl
    · rintro (h1 | rfl)
      · exact h1
      · exact h
  · rw [putL_mem]; simp
theorem putR_len (l : List ByteArray) (s : ByteArray) : (putR l s).length ≤ l.length + 1 := by
  unfold putR
  split
  · omega
  · exact putL_len s l false
set_option maxRecDepth 20000 in
theorem g138 (Gl : Granted) (l : List ByteArray) (s : ByteArray) (hl : l.length ≤ 2000000) : Fun Tryz.prog Gl 138 [.pv (strs l), vS s] [] (.pv (strs (putR l s))) [] := by
  refine fun_of (T := T4) (n := 49) (rs := [.tmp 4]) Tryz.func138 (by kernel_rfl) rfl rfl rfl tok4 mixed (by simp) fun C hC => ?_
  refine hC.go [] 60 ?_
  simp
  refine go_loop (ι := {x : Nat × Bool × List ByteArray // x.1 ≤ l.length ∧ s ∉ l.take x.1 ∧ putL s l false = x.2.2 ++ putL s (l.drop x.1) x.2.1 ∧ x.2.2.length ≤ x.1 + (if x.2.1 = true then 1 else 0)})
    (fun x => ⟨[(0, .pv (strs l)), (1, vS s), (5, .own (.can 0)), (6, vB x.1.2.1), (7, vI x.1.1)], [(.can 0, some (.row 9 1 (x.1.2.2.map fun s => [.val (.string s)])))]⟩)
    (fun x => l.length - x.1.1) ⟨(0, false, []), by simp⟩ [(.can 0, .nil)] (by simp) fun x ih => ?_
  obtain ⟨⟨i, done, out⟩, hi, hns, hn, hol⟩ := x
  simp only at hi hns hn hol ih
  by_cases hlt : i < l.length
  · have hw := wr64 ((i : Int) + 1) (by omega)
    have hlt' : (i : Int) < l.length := by omega
    by_cases he : l[i] = s
    · have hp : putR l s = l := by rw [putR, if_pos (by rw [← he]; simp)]
      rw [hp] at hC
      refine hC.go [] 60 ?_
      simp [hlt, he]
    · have hns2 : s ∉ l.take (i + 1) := by
        rw [List.take_add_one, List.getElem?_eq_getElem hlt]
        intro h
        rcases List.mem_append.1 h with h | h
        · exact hns h
        · exact he (by simpa using h : s = l[i]).symm
      rw [List.drop_eq_getElem_cons hlt, putL] at hn
      cases done with
      | true =>
        rw [if_neg (by simp)] at hn
        simp at hol
        refine hC.go [] 60 ?_
        simp [hlt, he]
        refine ⟨by omega, ?_⟩
        exact go_to [(.can 0, .nm (.loc 41))] (ih ⟨(i + 1, true, out ++ [l[i]]), hlt, hns2, by rw [hn]; simp, by simp; omega⟩ (by simp; omega)) (by simp [hw])
      | false =>
        simp at hol
        cases hb : Op.bytesLess s.toList l[i].toList with
        | true =>
          rw [if_pos ⟨rfl, hb⟩] at hn
          refine hC.go [] 100 ?_
          simp [hlt, he, hb]
          repeat (refine ⟨by omega, ?_⟩)
          exact go_to [(.can 0, .nm (.loc 41))] (ih ⟨(i + 1, true, out ++ [s] ++ [l[i]]), hlt, hns2, by rw [hn]; simp, by simp; omega⟩ (by simp; omega)) (by simp [hw])
        | false =>
          rw [if_neg (by simp [hb])] at hn
          refine hC.go [] 60 ?_
          simp [hlt, he, hb]
          refine ⟨by omega, ?_⟩
          exact go_to [(.can 0, .nm (.loc 41))] (ih ⟨(i + 1, false, out ++ [l[i]]), hlt, hns2, by rw [hn]; simp, by simp; omega⟩ (by simp; omega)) (by simp [hw])
  · have hnl : ¬ s ∈ l := by rw [List.take_of_length_le (by omega)] at hns; exact hns
    have hp : putR l s = putL s l false := by rw [putR, if_neg hnl]
    rw [hp, hn, List.drop_eq_nil_of_le (by omega)] at hC
    cases done with
    | true =>
      refine hC.go [] 60 ?_
      simp [hlt, putL]
    | false =>
      refine hC.go [] 60 ?_
      simp at hol
      simp [hlt, putL]
      omega
end Go.Proofs.D
/-
  SCHEMAS, as the answer reads them: both readers answer alike.
-/
set_option linter.unusedVariables false
set_option linter.unusedSimpArgs false
namespace Go.Proofs.D
open Go Go.Abs Go.RowKit
/-- Where a sign stands first. -/
def atB (c : UInt8) : Bs → Nat → Int
  | [], _ => -1
  | x :: l, i => if x = c then (i : Int) else atB c l (i + 1)
theorem atB_app (c : UInt8) : ∀ (p r : Bs) (i : Nat), c ∉ p → atB c (p ++ c :: r) i = ((i + p.length : Nat) : Int)
  | [], r, i, _ => by simp [atB]
  | x :: p, r, i, h => by
    simp only [List.mem_cons, not_or] at h
    rw [List.cons_append, atB, if_neg (fun e => h.1 e.symm), atB_app c p r (i + 1) h.2]
    simp only [List.length_cons]
    congr 1
    omega
theorem atB_lt (c : UInt8) : ∀ (l : Bs) (i : Nat), atB c l i = -1 ∨ ∃ j : Nat, atB c l i = ((i + j : Nat) : Int) ∧ j < l.length
  | [], i => by simp [atB]
  | x :: l, i => by
    simp only [atB]
    split
    · exact .inr ⟨0, by simp, by simp⟩
    · rcases atB_lt c l (i + 1) with h | ⟨j, h1, h2⟩
      · exact .inl h
      · exact .inr ⟨j + 1, by rw [h1]; congr 1; omega, by simp; omega⟩
def declR (w : Bs) : Dc := ⟨bs (w.take (atB 61 w 0).toNat), if w.drop ((atB 61 w 0).toNat + 1) = [42] then [] else (splitC 124 (w.drop ((atB 61 w 0).toNat + 1))).map bs⟩
def declsR : List Dc → List Bs → Option (List Dc)
  | acc, [] => some acc
  | acc, w :: r => if atB 61 w 0 < 0 then none else declsR (acc ++ [declR w]) r
def readK (s : Bs) : Kd :=
  if atB 58 s 0 < 0 ∨ (s.length : Int) < atB 58 s 0 + 2 then k0 else
    match declsR [] (splitC 32 (s.take (atB 58 s 0).toNat)).tail with
    | none => k0
    | some ds => ⟨bs ((splitC 32 (s.take (atB 58 s 0).toNat)).headD []), (parse (bs (s.drop ((atB 58 s 0).toNat + 2)))).1, ds⟩
def isN (p l : Bs) : Bool := decide (5 < l.length) && preB p l
def linesR : List Kd → List ByteArray → List Bs → List Kd × List ByteArray
  | ks, ms, [] => (ks, ms)
  | ks, ms, l :: r => linesR (if isN nodeS l = true then ks ++ [readK (l.drop 5)] else ks) (if isN markS l = true then ms ++ [bs (l.drop 5)] else ms) r
def rschema (t : Bs) : Sc × Int :=
  if (Sc.mk (linesR [] [] ((splitC 10 t).take 60)).1 (linesR [] [] ((splitC 10 t).take 60)).2).print.2 = 0 ∧ (Sc.mk (linesR [] [] ((splitC 10 t).take 60)).1 (linesR [] [] ((splitC 10 t).take 60)).2).print.1 = bs t
  then (⟨(linesR [] [] ((splitC 10 t).take 60)).1, (linesR [] [] ((splitC 10 t).take 60)).2⟩, 0) else (s0, 2)
theorem declR_back {d : Dc} (hn : isName d.name = true) (h : d.ok = true) : declR (dPart d) = d ∧ ¬ atB 61 (dPart d) 0 < 0 := by
  have ha : atB 61 (dPart d) 0 = (d.name.data.toList.length : Int) := by
    have := atB_app 61 d.name.data.toList (valsB d.vals) 0 (name_not hn (by decide))
    rw [Nat.zero_add] at this
    exact this
  refine ⟨?_, by rw [ha]; omega⟩
  unfold declR
  rw [ha, Int.toNat_natCast]
  have e1 : (dPart d).take d.name.data.toList.length = d.name.data.toList := by simp [dPart]
  have e2 : (dPart d).drop (d.name.data.toList.length + 1) = valsB d.vals := by
    have : dPart d = (d.name.data.toList ++ [61]) ++ valsB d.vals := by simp [dPart]
    rw [this]
    have hl : d.name.data.toList.length + 1 = (d.name.data.toList ++ [61]).length := by simp
    rw [hl, List.drop_left]
  rw [e1, e2, vals_split (vals_ok h), bs_data]
theorem declsR_back : ∀ (ds acc : List Dc), (∀ d ∈ ds, isName d.name = true ∧ d.ok = true) → declsR acc (ds.map dPart) = some (acc ++ ds)
  | [], acc, _ => by simp [declsR]
  | d :: ds, acc, h => by
    obtain ⟨h1, h2⟩ := declR_back (h d (by simp)).1 (h d (by simp)).2
    have ih := declsR_back ds (acc ++ [d]) fun x hx => h x (by simp [hx])
    simp only [List.map_cons, declsR, h2, if_false, h1, ih]
    simp
theorem readK_back {k : Kd} {s : Sc} (h : k.ok s = true) (hc : k.content.cnt ≤ 1000) : readK (kBody k) = k := by
  obtain ⟨n1, n2, n3⟩ := kind_names h
  have e : kBody k = kHead k ++ 58 :: (32 :: k.content.bytes) := by simp [kBody]
  have ha : atB 58 (kBody k) 0 = ((kHead k).length : Int) := by
    rw [e, atB_app 58 _ _ 0 (head_not h (by decide) (by decide) (by decide) (by decide) (by decide)), Nat.zero_add]
  have hlen : (kBody k).length = (kHead k).length + 2 + k.content.bytes.length := by rw [e]; simp; omega
  unfold readK
  rw [ha, if_neg (by rw [hlen]; omega), Int.toNat_natCast]
  have e1 : (kBody k).take (kHead k).length = kHead k := by rw [e]; simp
  have e2 : (kBody k).drop ((kHead k).length + 2) = k.content.bytes := by
    have hl : (kHead k).length + 2 = (kHead k ++ [58, 32]).length := by simp
    rw [kBody, hl, List.drop_left]
  rw [e1, e2, head_split h, List.tail_cons, declsR_back k.attrs [] n2, List.nil_append, content_back n3 hc]
  simp only [List.headD_cons, bs_data]
theorem linesR_marks : ∀ (l : List ByteArray) (ks : List Kd) (ms : List ByteArray), (∀ m ∈ l, isName m = true) → linesR ks ms (l.map (fun m => markS ++ m.data.toList) ++ [[]]) = (ks, ms ++ l)
  | [], ks, ms, _ => by simp [linesR, isN]
  | m :: l, ks, ms, h => by
    obtain ⟨h1, h2, h3⟩ := mark_pre m.data.toList
    have ih := linesR_marks l ks (ms ++ [m]) fun x hx => h x (by simp [hx])
    have hl : 5 < (markS ++ m.data.toList).length := by
      have := List.length_pos_iff.2 (name_low (h m (by simp))).1
      rw [List.length_append, show markS.length = 5 from rfl]; omega
    have i1 : isN nodeS (markS ++ m.data.toList) = false := by simp [isN, h3]
    have i2 : isN markS (markS ++ m.data.toList) = true := by simp only [isN, h1, hl, decide_true, Bool.and_true, Bool.true_and]
    simp only [List.map_cons, List.cons_append, linesR, i1, i2, Bool.false_eq_true, if_false, if_true, h2, bs_data, ih]
    simp
theorem linesR_kinds {s : Sc} : ∀ (l : List Kd) (r : List Bs) (ks : List Kd) (ms : List ByteArray), (∀ k ∈ l, k.ok s = true ∧ k.content.cnt ≤ 1000) → linesR ks ms (l.map (fun k => nodeS ++ kBody k) ++ r) = linesR (ks ++ l) ms r
  | [], r, ks, ms, _ => by simp
  | k :: l, r, ks, ms, h => by
    obtain ⟨h1, h2, h3⟩ := node_pre (kBody k)
    have ih := linesR_kinds l r (ks ++ [k]) ms (fun x hx => h x (by simp [hx]))
    have hk := readK_back (h k (by simp)).1 (h k (by simp)).2
    have hl : 5 < (nodeS ++ kBody k).length := by simp [nodeS, kBody]; omega
    have i1 : isN nodeS (nodeS ++ kBody k) = true := by simp only [isN, h1, hl, decide_true, Bool.and_true, Bool.true_and]
    have i2 : isN markS (nodeS ++ kBody k) = false := by simp [isN, h3]
    simp only [List.map_cons, List.cons_append, linesR, i1, i2, Bool.false_eq_true, if_false, if_true, h2, hk, ih]
    simp
theorem rschema_back {s : Sc} (h : s.ok = true) (hc : ∀ k ∈ s.kinds, k.content.cnt ≤ 1000) : rschema s.bytes = (s, 0) := by
  obtain ⟨n1, n2, n3, n4⟩ := Sc.ok_kinds h
  have hl : linesR [] [] ((splitC 10 s.bytes).take 60) = (s.kinds, s.marks) := by
    rw [List.take_of_length_le (by rw [lines_of h]; simp; omega), lines_of h, linesR_kinds s.kinds _ [] [] (fun k hk => ⟨Sc.ok_kind h hk, hc k hk⟩), linesR_marks _ _ _ fun m hm => rise_names _ _ n4 m hm]
    simp
  unfold rschema
  rw [hl]
  simp only
  have hs : Sc.mk s.kinds s.marks = s := rfl
  rw [hs]
  have hp : s.print = (bs s.bytes, 0) := by rw [Sc.print, h]; rfl
  rw [hp]
  simp
/-! ### small contents -/
theorem k0_cnt : k0.content.cnt = 1 := by rw [cnt_eq]; rfl
theorem kindR_cnt (l : Bs) (hl : l.length ≤ 1000000) : (kindR l).1.content.cnt ≤ 1000 := by
  obtain ⟨c1, c2⟩ := cutT_len l [58, 32]
  unfold kindR
  split
  · split
    · simp only [k0_cnt]; omega
    · exact (parse_small _ (by rw [bsize]; omega)).2
  · simp only [k0_cnt]; omega
theorem readK_cnt (l : Bs) (hl : l.length ≤ 1000000) : (readK l).content.cnt ≤ 1000 := by
  unfold readK
  split
  · rw [k0_cnt]; omega
  · split
    · rw [k0_cnt]; omega
    · exact (parse_small _ (by rw [bsize, List.length_drop]; omega)).2
theorem linesFrom_cnt : ∀ (L : List Bs) (ks : List Kd) (ms : List ByteArray) (ks' : List Kd) (ms' : List ByteArray), linesFrom ks ms L = some (ks', ms') → (∀ l ∈ L, l.length ≤ 1000000) → (∀ k ∈ ks, k.content.cnt ≤ 1000) → ∀ k ∈ ks', k.content.cnt ≤ 1000
  | [], ks, ms, ks', ms', h, _, hk => by simp only [linesFrom, Option.some.injEq, Prod.mk.injEq] at h; rw [← h.1]; exact hk
  | l :: L, ks, ms, ks', ms', h, hl, hk => by
    simp only [linesFrom] at h
    have h5 : (l.drop 5).length ≤ 1000000 := by have := hl l (by simp); rw [List.length_drop]; omega
    split at h
    · split at h
      · exact linesFrom_cnt L _ _ ks' ms' h (fun x hx => hl x (by simp [hx])) (fun k hkm => by
          rcases List.mem_append.1 hkm with hkm | hkm
          · exact hk k hkm
          · simp at hkm; rw [hkm]; exact kindR_cnt _ h5)
      · cases h
    · exact linesFrom_cnt L _ _ ks' ms' h (fun x hx => hl x (by simp [hx])) hk
theorem linesR_cnt : ∀ (L : List Bs) (ks : List Kd) (ms : List ByteArray), (∀ l ∈ L, l.length ≤ 1000000) → (∀ k ∈ ks, k.content.cnt ≤ 1000) → ∀ k ∈ (linesR ks ms L).1, k.content.cnt ≤ 1000
  | [], ks, ms, _, hk => hk
  | l :: L, ks, ms, hl, hk => by
    simp only [linesR]
    have h5 : (l.drop 5).length ≤ 1000000 := by have := hl l (by simp); rw [List.length_drop]; omega
    refine linesR_cnt L _ _ (fun x hx => hl x (by simp [hx])) fun k hkm => ?_
    split at hkm
    · rcases List.mem_append.1 hkm with hkm | hkm
      · exact hk k hkm
      · simp at hkm; rw [hkm]; exact readK_cnt _ h5
    · exact hk k hkm
theorem print_ok {s : Sc} {t : Bs} (h1 : s.print.2 = 0) (h2 : s.print.1 = bs t) : s.ok = true ∧ s.bytes = t := by
  unfold Sc.print at h1 h2
  split at h1
  · rename_i h
    rw [if_pos h] at h2
    have := congrArg (fun x : ByteArray => x.data.toList) h2
    exact ⟨h, by simpa [bs_list] using this⟩
  · simp at h1
/-- Both readers answer alike. -/
theorem sparse_eq (t : Bs) (ht : t.length ≤ 1000000) : rschema t = sparse t ∧ (sparse t = (s0, 2) ∨ ∃ s : Sc, sparse t = (s, 0) ∧ s.ok = true ∧ s.bytes = t ∧ ∀ k ∈ s.kinds, k.content.cnt ≤ 1000) := by
  by_cases h : ∃ s : Sc, s.ok = true ∧ s.bytes = t ∧ ∀ k ∈ s.kinds, k.content.cnt ≤ 1000
  · obtain ⟨s, h1, rfl, h3⟩ := h
    rw [sparse_back h1 h3, rschema_back h1 h3]
    exact ⟨rfl, .inr ⟨s, rfl, h1, rfl, h3⟩⟩
  · have hL := splitC_len 10 t
    have e1 : sparse t = (s0, 2) := by
      unfold sparse
      cases hl : linesFrom [] [] (splitC 10 t) with
      | none => rfl
      | some p =>
        obtain ⟨ks, ms⟩ := p
        simp only
        split
        · rename_i hp
          obtain ⟨q1, q2⟩ := print_ok hp.1 hp.2
          exact absurd ⟨⟨ks, ms⟩, q1, q2, linesFrom_cnt _ _ _ _ _ hl (fun l hlm => by have := hL l hlm; omega) (fun k hk => by cases hk)⟩ h
        · rfl
    have e2 : rschema t = (s0, 2) := by
      unfold rschema
      split
      · rename_i hp
        obtain ⟨q1, q2⟩ := print_ok hp.1 hp.2
        exact absurd ⟨_, q1, q2, linesR_cnt ((splitC 10 t).take 60) [] [] (fun l hlm => by have := hL l (List.mem_of_mem_take hlm); omega) (fun k hk => by cases hk)⟩ h
      · rfl
    rw [e1, e2]
    exact ⟨rfl, .inl rfl⟩
end Go.Proofs.D
/-
  THE ANSWER TO CHAPTER 6: all names of an expression.
-/
set_option linter.unusedVariables false
set_option linter.unusedSimpArgs false
namespace Go.Proofs.D
open Go Go.Abs Go.RowKit
attribute [local simp] VC VCS stepVS stepTopS firstId memN bigB unmark markT mkOff calmP keepT boundB stepV stepTop stepReg stepOp stMove stPick stBin stUn stConv stBox stAlloc stLoad stStore stFieldAddr stField stExtract stNilCheck stMakeFunc stIndexAddr stIndex stLen
  stBuild placesOf fillA stBuildSlice sliceCells repL chunks allPV toPV drawOk drawOk.go mayMakeO mayMake1 disjoint pairOk Oper.apart Oper.looksAt Op.operands Call.operands Region.binds stAppend appBase appTail unName stSlice bndA
  LS.ev LS.get LS.blk LS.put LS.app LS.upd lkS lkH setS setH Nm.eqb guardOf nexts okPair dstOk AV.cellsOf takeAt putAt lkT sliceE fieldT intK isStrT isBoolT abin newOk LS.freshB LS.freshB.go LS.freshB.goH notIn AV.ments AV.ments.mentsL Blk.ments makes upsMents LS.start startL exitTo T T3 T4 outs callSideR callSideO callSideD upsR backO freshAll argB onlyIO List.map List.append List.nil_append List.cons_append Nat.blt
  conv convS convH srcs srcOf blkOk leA leA.leL Go.Abs.leB leP laid laidM laidG isArg subH retP resAV resL res1 AV.frz AV.frz.frzL evL AV.ren AV.ren.renL Blk.ren renBs blksOf allSome nodupB onlyArgs blksMents callUps keyed inName inName.go backName callSide
def E.namesR : E → List ByteArray
  | .mk op name kids => if op = 110 then [name] else go kids []
where go : List E → List ByteArray → List ByteArray
  | [], out => out
  | k :: l, out => go l (k.namesR.foldl putR out)
theorem namesR_eq (e : E) : e.namesR = if e.op = 110 then [e.name] else E.namesR.go e.kids [] := by
  obtain ⟨o, n, k⟩ := e
  simp only [E.namesR, E.op, E.name, E.kids]
  rfl
theorem fold_mem (x : ByteArray) : ∀ (m out : List ByteArray), x ∈ m.foldl putR out ↔ x ∈ out ∨ x ∈ m
  | [], out => by simp
  | y :: m, out => by
    rw [List.foldl_cons, fold_mem x m, putR_mem]
    simp only [List.mem_cons, or_assoc]
theorem fold_len : ∀ (m out : List ByteArray), (m.foldl putR out).length ≤ out.length + m.length
  | [], out => by simp
  | y :: m, out => by
    have h1 := fold_len m (putR out y)
    have h2 := putR_len out y
    rw [List.foldl_cons, List.length_cons]
    omega
theorem namesR_mem (e : E) (x : ByteArray) : x ∈ e.namesR ↔ e.occ x := by
  have key : ∀ (l : List E) (out : List ByteArray), (∀ k ∈ l, x ∈ k.namesR ↔ k.occ x) → (x ∈ E.namesR.go l out ↔ x ∈ out ∨ ∃ k ∈ l, k.occ x) := by
    intro l
    induction l with
    | nil => intro out _; simp [E.namesR.go]
    | cons k l ih =>
      intro out h
      simp only [E.namesR.go]
      rw [ih _ (fun y hy => h y (by simp [hy])), fold_mem, h k (by simp)]
      simp only [List.mem_cons, exists_eq_or_imp, or_assoc]
  rw [namesR_eq, occ_eq]
  by_cases h : e.op = 110
  · rw [if_pos h, if_pos h]; simp
  · rw [if_neg h, if_neg h, key e.kids [] (fun k hk => namesR_mem k x)]
    simp
termination_by SizeOf.sizeOf e
decreasing_by exact E.kids_lt hk
theorem namesR_len (e : E) : e.namesR.length ≤ e.cnt := by
  have key : ∀ (l : List E) (out : List ByteArray), (∀ k ∈ l, k.namesR.length ≤ k.cnt) → (E.namesR.go l out).length ≤ out.length + (l.map E.cnt).sum := by
    intro l
    induction l with
    | nil => intro out _; simp [E.namesR.go]
    | cons k l ih =>
      intro out h
      have h1 := ih (k.namesR.foldl putR out) (fun y hy => h y (by simp [hy]))
      have h2 := fold_len k.namesR out
      have h3 := h k (by simp)
      simp only [E.namesR.go, List.map_cons, List.sum_cons]
      omega
  rw [namesR_eq, cnt_eq]
  split
  · simp
  · have := key e.kids [] (fun k hk => namesR_len k)
    simp at this
    omega
termination_by SizeOf.sizeOf e
decreasing_by exact E.kids_lt hk
theorem names_go_len : ∀ (l : List E) (out : List ByteArray), (E.namesR.go l out).length ≤ out.length + (l.map E.cnt).sum
  | [], out => by simp [E.namesR.go]
  | k :: l, out => by
    have h1 := names_go_len l (k.namesR.foldl putR out)
    have h2 := fold_len k.namesR out
    have h3 := namesR_len k
    simp only [E.namesR.go, List.map_cons, List.sum_cons]
    omega
set_option maxRecDepth 20000 in
set_option maxHeartbeats 4000000 in
theorem g105 (Gl : Granted) (e : E) (hc : e.cnt ≤ 1000000) : Fun Tryz.prog Gl 105 [e.av] [] (.pv (strs e.namesR)) [] := by
  have hrec : ∀ k ∈ e.kids, Fun Tryz.prog Gl 105 [k.av] [] (.pv (strs k.namesR)) [] := fun k hk => g105 Gl k (by have := cnt_kid hk; omega)
  have he := namesR_eq e
  have hkl := kids_le e
  refine fun_of (T := T4) (n := 39) (rs := [.tmp 2]) Tryz.func105 (by kernel_rfl) rfl rfl rfl tok4 mixed (by simp) fun C hC => ?_
  by_cases hop : e.op = 110
  · rw [if_pos hop] at he
    rw [he] at hC
    refine hC.go [] 60 ?_
    simp [E.av, E.cells, hop]
  · rw [if_neg hop] at he
    refine hC.go [] 60 ?_
    simp [E.av, E.cells, hop]
    refine go_to (M := ⟨[(1, .ptr (.loc 1) 0), (3, .pv (strs [])), (4, vI 0)], [(.loc 1, some (.box 120 e.cells))]⟩) [] ?_ (by simp [E.cells, E.av])
    refine go_loop (ι := {x : Nat × List ByteArray // x.1 ≤ e.kids.length ∧ E.namesR.go e.kids [] = E.namesR.go (e.kids.drop x.1) x.2 ∧ x.2.length + ((e.kids.drop x.1).map E.cnt).sum ≤ e.cnt}) (fun x => ⟨[(1, .ptr (.loc 1) 0), (3, .pv (strs x.1.2)), (4, vI x.1.1)], [(.loc 1, some (.box 120 e.cells))]⟩)
      (fun x => e.kids.length - x.1.1) ⟨(0, []), by simp, by simp, by rw [cnt_eq e]; simp⟩ [] (by simp [E.cells]) fun x ih => ?_
    obtain ⟨⟨i, out⟩, hi, hn, hol⟩ := x
    simp only at hi hn hol ih
    by_cases hlt : i < e.kids.length
    · have hw := wr64 ((i : Int) + 1) (by omega)
      obtain ⟨k, hk⟩ : ∃ k, e.kids[i] = k := ⟨_, rfl⟩
      have hkm : k ∈ e.kids := by rw [← hk]; simp
      rw [List.drop_eq_getElem_cons hlt, hk] at hn hol
      simp only [E.namesR.go] at hn
      simp only [List.map_cons, List.sum_cons] at hol
      have hnl := namesR_len k
      obtain ⟨m, hm⟩ : ∃ m, k.namesR = m := ⟨_, rfl⟩
      rw [hm] at hn hnl
      have hkc := hrec k hkm
      rw [hm] at hkc
      refine hC.go [] 60 ?_
      simp [E.cells, hlt, hk, E.pv_eq]
      refine hC.call [] hkc (by simp [E.av, E.cells]) ?_
      refine hC.go [] 60 ?_
      simp
      refine go_loop (ι := {x : Nat × List ByteArray // x.1 ≤ m.length ∧ m.foldl putR out = (m.drop x.1).foldl putR x.2 ∧ x.2.length ≤ out.length + x.1}) (fun x => ⟨[(1, .ptr (.loc 1) 0), (3, .pv (strs x.1.2)), (4, vI i), (5, .pv (strs m)), (6, vI x.1.1)], [(.loc 1, some (.box 120 e.cells))]⟩)
        (fun x => m.length - x.1.1) ⟨(0, out), by simp⟩ [] (by simp [E.cells]) fun x ih2 => ?_
      obtain ⟨⟨j, o2⟩, hj, hn2, ho2⟩ := x
      simp only at hj hn2 ho2 ih2
      by_cases hlj : j < m.length
      · have hw2 := wr64 ((j : Int) + 1) (by omega)
        rw [List.drop_eq_getElem_cons hlj, List.foldl_cons] at hn2
        have hpl := putR_len o2 m[j]
        refine hC.go [] 60 ?_
        simp [hlj]
        refine hC.call [] (g138 Gl o2 m[j] (by omega)) (by simp) ?_
        refine hC.go [] 60 ?_
        simp
        exact go_to [] (ih2 ⟨(j + 1, putR o2 m[j]), hlj, hn2, by dsimp only; omega⟩ (by simp; omega)) (by simp [hw2, E.cells])
      · rw [List.drop_eq_nil_of_le (by omega), List.foldl_nil] at hn2
        refine hC.go [] 60 ?_
        simp [hlj]
        exact go_to [] (ih ⟨(i + 1, o2), hlt, by rw [hn, hn2], by dsimp only; omega⟩ (by simp; omega)) (by simp [hw, E.cells])
    · rw [List.drop_eq_nil_of_le (by omega)] at hn
      simp only [E.namesR.go] at hn
      rw [he, hn] at hC
      refine hC.go [] 60 ?_
      simp [hlt, E.cells]
termination_by SizeOf.sizeOf e
decreasing_by exact E.kids_lt hk
end Go.Proofs.D
/-
  THE ANSWER TO CHAPTER 8: is a schema right?
-/
set_option linter.unusedVariables false
set_option linter.unusedSimpArgs false
namespace Go.Proofs.D
open Go Go.Abs Go.RowKit
attribute [local simp] VC VCS stepVS stepTopS firstId memN bigB unmark markT mkOff calmP keepT boundB stepV stepTop stepReg stepOp stMove stPick stBin stUn stConv stBox stAlloc stLoad stStore stFieldAddr stField stExtract stNilCheck stMakeFunc stIndexAddr stIndex stLen
  stBuild placesOf fillA stBuildSlice sliceCells repL chunks allPV toPV drawOk drawOk.go mayMakeO mayMake1 disjoint pairOk Oper.apart Oper.looksAt Op.operands Call.operands Region.binds stAppend appBase appTail unName stSlice bndA
  LS.ev LS.get LS.blk LS.put LS.app LS.upd lkS lkH setS setH Nm.eqb guardOf nexts okPair dstOk AV.cellsOf takeAt putAt lkT sliceE fieldT intK isStrT isBoolT abin newOk LS.freshB LS.freshB.go LS.freshB.goH notIn AV.ments AV.ments.mentsL Blk.ments makes upsMents LS.start startL exitTo T T3 T4 outs callSideR callSideO callSideD upsR backO freshAll argB onlyIO List.map List.append List.nil_append List.cons_append Nat.blt
  conv convS convH srcs srcOf blkOk leA leA.leL Go.Abs.leB leP laid laidM laidG isArg subH retP resAV resL res1 AV.frz AV.frz.frzL evL AV.ren AV.ren.renL Blk.ren renBs blksOf allSome nodupB onlyArgs blksMents callUps keyed inName inName.go backName callSide
theorem g22 (Gl : Granted) (s : Sc) (name : ByteArray) (hk : s.kinds.length ≤ 1000000) : Fun Tryz.prog Gl 22 [s.av, vS name] [] (vI (s.place name)) [] := by
  refine fun_of (T := T4) (n := 22) (rs := [.tmp 4]) Tryz.func22 (by kernel_rfl) rfl rfl rfl tok4 mixed (by simp) fun C hC => ?_
  refine hC.go [] 60 ?_
  simp [Sc.av, Sc.cells]
  refine go_loop (ι := {i : Nat // i ≤ s.kinds.length ∧ s.place name = firstAt (isKind name) (s.kinds.drop i) i}) (fun x => ⟨[(1, vS name), (2, .ptr (.loc 2) 0), (5, vI x.1)], [(.loc 2, some (.box 48 s.cells))]⟩) (fun x => s.kinds.length - x.1) ⟨0, by simp [Sc.place]⟩ [] (by simp [Sc.cells]) fun x ih => ?_
  obtain ⟨i, hi, hn⟩ := x
  simp only at hi hn ih
  by_cases hlt : i < s.kinds.length
  · have hw := wr64 ((i : Int) + 1) (by omega)
    rw [List.drop_eq_getElem_cons hlt] at hn
    simp only [firstAt] at hn
    by_cases hq : s.kinds[i].name = name
    · rw [if_pos (by simp [isKind, hq])] at hn
      refine hC.go [] 60 ?_
      simp [hlt, Sc.cells, Kd.pv_eq, E.pv_eq, hq, hn]
    · rw [if_neg (by simp [isKind, hq])] at hn
      refine hC.go [] 60 ?_
      simp [hlt, Sc.cells, Kd.pv_eq, E.pv_eq, hq]
      exact go_to [] (ih ⟨i + 1, hlt, hn⟩ (by simp; omega)) (by simp [hw, Sc.cells])
  · rw [List.drop_eq_nil_of_le (by omega)] at hn
    refine hC.go [] 60 ?_
    have hlt' : ¬ (i : Int) < s.kinds.length := by omega
    simp [hlt, Sc.cells, hn, firstAt]
set_option maxRecDepth 20000 in
set_option maxHeartbeats 4000000 in
theorem g60 (Gl : Granted) (l : List ByteArray) (hs : ∀ s ∈ l, s.size ≤ M47) : Fun Tryz.prog Gl 60 [.pv (strs l)] [] (vB (rise l)) [] := by
  refine fun_of (T := T4) (n := 32) (rs := [.tmp 2]) Tryz.func60 (by kernel_rfl) rfl rfl rfl tok4 mixed (by simp) fun C hC => ?_
  refine hC.go [] 60 ?_
  simp
  refine go_len 0 1 (l.map fun s => [.val (.string s)]) (by simp) fun hk => ?_
  rw [List.length_map] at hk
  refine go_loop (ι := {i : Nat // i ≤ l.length ∧ rise l = riseFrom (prevAt l i) (l.drop i)}) (fun x => ⟨[(0, .pv (strs l)), (3, vI x.1)], []⟩)
    (fun x => l.length - x.1) ⟨0, by simp [rise, prevAt]⟩ [] (by simp) fun x ih => ?_
  obtain ⟨i, hi, hn⟩ := x
  simp only at hi hn ih
  refine hC.go [] 60 ?_
  by_cases hlt : i < l.length
  · rw [List.drop_eq_getElem_cons hlt] at hn
    simp only [riseFrom] at hn
    have hw := wr64 ((i : Int) + 1) (by omega)
    simp [hlt]
    refine hC.drawn (by kernel_rfl) (by simp) ?_
    refine hC.go [] 60 ?_
    simp [hlt]
    refine hC.call [] (f100 Gl l[i] (by have := hs l[i] (by simp); simp only [M47] at this; omega)) (by simp) ?_
    refine hC.go [] 60 ?_
    cases hnm : isName l[i] with
    | false =>
      simp [hn, hnm]
    | true =>
      rw [hnm, Bool.true_and] at hn
      by_cases h0 : 0 < (i : Int)
      · have hw2 := wr64 ((i : Int) - 1) (by omega)
        have hi1 : i - 1 < l.length := by omega
        have h0n : 0 < i := by omega
        have e1 : ((i : Int) - 1) = ((i - 1 : Nat) : Int) := by omega
        have hp : prevAt l i = some l[i - 1] := by
          unfold prevAt
          rw [if_neg (by omega), List.getElem?_eq_getElem hi1]
        rw [hp] at hn
        simp only at hn
        rw [e1] at hw2
        cases hu : notUp l[i] l[i - 1] with
        | true =>
          rw [hu] at hn
          have hu' : (Op.bytesLess l[i].toList l[i - 1].toList || decide (l[i] = l[i - 1])) = true := hu
          simp [hlt, h0n, hw2, e1, hi1, hu', hn]
        | false =>
          rw [hu] at hn
          have hu' : (Op.bytesLess l[i].toList l[i - 1].toList || decide (l[i] = l[i - 1])) = false := hu
          simp [hlt, h0n, hw2, e1, hi1, hu']
          exact go_to [] (ih ⟨i + 1, hlt, by rw [prevAt_succ hlt, hn]; simp⟩ (by simp; omega)) (by simp [hw])
      · have hi0 : i = 0 := by omega
        subst hi0
        simp only [prevAt, if_true, Bool.true_and] at hn
        simp
        exact go_to [] (ih ⟨1, hlt, by rw [hn]; simp [prevAt, List.getElem?_eq_getElem hlt]⟩ (by simp; omega)) (by simp [wr64 1 (by omega)])
  · rw [List.drop_eq_nil_of_le (by omega)] at hn
    simp [hlt, hn, riseFrom]
theorem any_take_succ (l : List ByteArray) (q : ByteArray → Bool) (k : Nat) (h : k < l.length) : (l.take (k + 1)).any q = ((l.take k).any q || q l[k]) := by
  rw [List.take_add_one, List.getElem?_eq_getElem h, List.any_append]
  simp
set_option maxRecDepth 20000 in
set_option maxHeartbeats 4000000 in
theorem g103 (Gl : Granted) (d : Dc) (hs : ∀ s ∈ d.vals, s.size ≤ M47) : Fun Tryz.prog Gl 103 [.pv (strs d.vals)] [] (vB d.ok) [] := by
  obtain ⟨l, hl⟩ : ∃ l, d.vals = l := ⟨_, rfl⟩
  have hdok : d.ok = (valsFrom l 0 l && decide ((l.length : Int) ≤ 6)) := by rw [Dc.ok, valsOk, hl]
  rw [hl] at hs ⊢
  refine fun_of (T := T4) (n := 34) (rs := [.tmp 2]) Tryz.func103 (by kernel_rfl) rfl rfl rfl tok4 mixed (by simp) fun C hC => ?_
  refine hC.go [] 60 ?_
  simp
  refine go_len 0 1 (l.map fun s => [.val (.string s)]) (by simp) fun hk => ?_
  rw [List.length_map] at hk
  refine go_loop (ι := {i : Nat // i ≤ l.length ∧ valsFrom l 0 l = valsFrom l i (l.drop i)}) (fun x => ⟨[(0, .pv (strs l)), (3, vI x.1)], []⟩) (fun x => l.length - x.1) ⟨0, by simp⟩ [] (by simp) fun x ih => ?_
  obtain ⟨i, hi, hn⟩ := x
  simp only at hi hn ih
  by_cases hlt : i < l.length
  · have hw := wr64 ((i : Int) + 1) (by omega)
    rw [List.drop_eq_getElem_cons hlt] at hn
    simp only [valsFrom] at hn
    refine hC.go [] 60 ?_
    simp [hlt]
    refine go_loop (ι := {k : Nat // k ≤ i ∧ (l.take k).any (fun x => decide (l[i] = x)) = false}) (fun x => ⟨[(0, .pv (strs l)), (3, vI i), (4, vI x.1)], []⟩) (fun x => i - x.1) ⟨0, by simp⟩ [] (by simp) fun x ih2 => ?_
    obtain ⟨k, hk2, hany⟩ := x
    simp only at hk2 hany ih2
    by_cases hki : k < i
    · have hw2 := wr64 ((k : Int) + 1) (by omega)
      have hkl : k < l.length := by omega
      by_cases he : l[k] = l[i]
      · have hbad : (l.take i).any (fun x => decide (l[i] = x)) = true := by
          rw [List.any_eq_true]
          exact ⟨l[k], List.mem_take_iff_getElem.2 ⟨k, by omega, rfl⟩, by simp [he]⟩
        have : d.ok = false := by rw [hdok, hn, hbad]; simp
        refine hC.go [] 60 ?_
        simp [hki]
        refine hC.drawn (by kernel_rfl) (by simp) ?_
        refine hC.go [] 60 ?_
        simp [hkl, hlt, he, this]
      · refine hC.go [] 60 ?_
        simp [hki]
        refine hC.drawn (by kernel_rfl) (by simp) ?_
        refine hC.go [] 60 ?_
        simp [hkl, hlt, he]
        exact go_to [] (ih2 ⟨k + 1, hki, by rw [any_take_succ _ _ _ hkl, hany]; simpa using fun e => he e.symm⟩ (by simp; omega)) (by simp [hw2])
    · have hke : k = i := by omega
      subst hke
      rw [hany] at hn
      refine hC.go [] 60 ?_
      simp [hlt]
      refine hC.call [] (f100 Gl l[k] (by have := hs l[k] (by simp); simp only [M47] at this; omega)) (by simp) ?_
      refine hC.go [] 60 ?_
      cases hnm : isName l[k] with
      | false =>
        have : d.ok = false := by rw [hdok, hn, hnm]; simp
        simp [this]
      | true =>
        rw [hnm] at hn
        simp
        exact go_to [] (ih ⟨k + 1, hlt, by rw [hn]; simp⟩ (by simp; omega)) (by simp [hw])
  · rw [List.drop_eq_nil_of_le (by omega)] at hn
    simp only [valsFrom] at hn
    rw [hn, Bool.true_and] at hdok
    refine hC.go [] 60 ?_
    simp [hlt, hdok]
end Go.Proofs.D
/-
  THE ANSWER TO CHAPTER 8: is a kind right?
-/
set_option linter.unusedVariables false
set_option linter.unusedSimpArgs false
namespace Go.Proofs.D
open Go Go.Abs Go.RowKit
attribute [local simp] VC VCS stepVS stepTopS firstId memN bigB unmark markT mkOff calmP keepT boundB stepV stepTop stepReg stepOp stMove stPick stBin stUn stConv stBox stAlloc stLoad stStore stFieldAddr stField stExtract stNilCheck stMakeFunc stIndexAddr stIndex stLen
  stBuild placesOf fillA stBuildSlice sliceCells repL chunks allPV toPV drawOk drawOk.go mayMakeO mayMake1 disjoint pairOk Oper.apart Oper.looksAt Op.operands Call.operands Region.binds stAppend appBase appTail unName stSlice bndA
  LS.ev LS.get LS.blk LS.put LS.app LS.upd lkS lkH setS setH Nm.eqb guardOf nexts okPair dstOk AV.cellsOf takeAt putAt lkT sliceE fieldT intK isStrT isBoolT abin newOk LS.freshB LS.freshB.go LS.freshB.goH notIn AV.ments AV.ments.mentsL Blk.ments makes upsMents LS.start startL exitTo T T3 T4 outs callSideR callSideO callSideD upsR backO freshAll argB onlyIO List.map List.append List.nil_append List.cons_append Nat.blt
  conv convS convH srcs srcOf blkOk leA leA.leL Go.Abs.leB leP laid laidM laidG isArg subH retP resAV resL res1 AV.frz AV.frz.frzL evL AV.ren AV.ren.renL Blk.ren renBs blksOf allSome nodupB onlyArgs blksMents callUps keyed inName inName.go backName callSide
theorem take_rowK {α β : Type} (f : α → β) {l : List α} {i : Nat} (h : i < l.length) : (l.map f).take (i + 1) = (l.map f).take i ++ [f l[i]] := by
  rw [List.take_add_one, List.getElem?_map, List.getElem?_eq_getElem h]
  rfl
set_option maxRecDepth 20000 in
set_option maxHeartbeats 4000000 in
theorem g59 (Gl : Granted) (k : Kd) (s : Sc) (hk : k.fit) (hsk : s.kinds.length ≤ 1000000) : Fun Tryz.prog Gl 59 [s.av, k.av] [] (vB (k.ok s)) [] := by
  obtain ⟨f1, f2, f3, f4, f5⟩ := hk
  have hM : M47 = 140737488355328 := rfl
  have hok : k.ok s = (k.attrs.all Dc.ok && (isName k.name && (rise (k.attrs.map (·.name)) && (k.content.right && !(k.content.names.any s.unknown))))) := rfl
  have hnames : k.content.names.any s.unknown = k.content.namesR.any s.unknown := by
    rw [Bool.eq_iff_iff, List.any_eq_true, List.any_eq_true]
    constructor
    · rintro ⟨x, h1, h2⟩; exact ⟨x, (namesR_mem _ x).2 ((names_mem _ x).1 h1), h2⟩
    · rintro ⟨x, h1, h2⟩; exact ⟨x, (names_mem _ x).2 ((namesR_mem _ x).1 h1), h2⟩
  rw [hnames] at hok
  refine fun_of (T := T4) (n := 71) (rs := [.tmp 4]) Tryz.func59 (by kernel_rfl) rfl rfl rfl tok4 mixed (by simp) fun C hC => ?_
  refine hC.go [] 60 ?_
  simp [Kd.av, Kd.cells, Sc.av, Sc.cells, E.cells]
  refine go_loop (ι := {i : Nat // i ≤ k.attrs.length ∧ k.attrs.all Dc.ok = (k.attrs.drop i).all Dc.ok}) (fun x => ⟨[(2, .ptr (.loc 2) 0), (3, .ptr (.loc 3) 0), (5, .own (.can 0)), (6, vI x.1)],
      [(.loc 2, some (.box 48 s.cells)), (.loc 3, some (.box 123 k.cells)), (.can 0, some (.row 9 1 ((k.attrs.map fun d => [PV.val (.string d.name)]).take x.1)))]⟩)
    (fun x => k.attrs.length - x.1) ⟨0, by simp⟩ [(.can 0, .nil)] (by simp [Kd.cells, E.cells, Sc.cells]) fun x ih => ?_
  obtain ⟨i, hi, hn⟩ := x
  simp only at hi hn ih
  by_cases hlt : i < k.attrs.length
  · have hw := wr64 ((i : Int) + 1) (by omega)
    obtain ⟨d, hd⟩ : ∃ d, k.attrs[i] = d := ⟨_, rfl⟩
    have hdm : d ∈ k.attrs := by rw [← hd]; simp
    rw [List.drop_eq_getElem_cons hlt, List.all_cons, hd] at hn
    have htk := take_rowK (fun d : Dc => [PV.val (.string d.name)]) hlt
    rw [hd] at htk
    refine hC.go [] 60 ?_
    simp [Kd.cells, E.cells, hlt, hd]
    refine ⟨by omega, ?_⟩
    simp [Kd.cells, E.cells, hlt, hd]
    refine hC.call [] (g103 Gl d (f5 d hdm).2) (by simp) ?_
    cases hdo : d.ok with
    | false =>
      have : k.ok s = false := by rw [hok, hn, hdo]; rfl
      refine hC.go [] 60 ?_
      simp [this]
    | true =>
      rw [hdo, Bool.true_and] at hn
      refine hC.go [] 60 ?_
      simp
      exact go_to [(.can 0, .nm (.loc 24))] (ih ⟨i + 1, hlt, hn⟩ (by simp; omega)) (by simp [hw, htk, Kd.cells, E.cells, Sc.cells])
  · rw [List.drop_eq_nil_of_le (by omega), List.all_nil] at hn
    rw [hn, Bool.true_and] at hok
    have hnm : (k.attrs.map fun d => [PV.val (.string d.name)]).take i = (k.attrs.map (·.name)).map fun s => [PV.val (.string s)] := by
      rw [List.take_of_length_le (by simp; omega), List.map_map]; rfl
    rw [hnm]
    have hlt' : ¬ (i : Int) < k.attrs.length := by omega
    refine hC.go [] 60 ?_
    simp [hlt, Kd.cells, E.cells]
    refine hC.call [] (f100 Gl k.name (by omega)) (by simp) ?_
    cases hnk : isName k.name with
    | false =>
      have : k.ok s = false := by rw [hok, hnk]; rfl
      refine hC.go [] 60 ?_
      simp [this, Kd.cells, E.cells]
    | true =>
      rw [hnk, Bool.true_and] at hok
      refine hC.go [] 60 ?_
      simp
      refine hC.call [.can 0] (fun_ownRow (a := []) (b := []) (e := 9) (by simp) rfl (g60 Gl (k.attrs.map (·.name)) fun s hs => by
        obtain ⟨d, hd, rfl⟩ := List.mem_map.1 hs
        exact (f5 d hd).1)) (by simp) ?_
      cases hr : rise (k.attrs.map (·.name)) with
      | false =>
        have : k.ok s = false := by rw [hok, hr]; rfl
        refine hC.go [] 60 ?_
        simp [this, Kd.cells, E.cells]
      | true =>
        rw [hr, Bool.true_and] at hok
        refine hC.go [] 60 ?_
        simp [Kd.cells, E.cells]
        refine hC.call [] (f56 Gl k.content f2) (by simp [E.av, E.cells]) ?_
        cases hrt : k.content.right with
        | false =>
          have : k.ok s = false := by rw [hok, hrt]; rfl
          refine hC.go [] 60 ?_
          simp [this]
        | true =>
          rw [hrt, Bool.true_and] at hok
          have hnl := namesR_len k.content
          refine hC.go [] 60 ?_
          simp [Kd.cells, E.cells]
          refine hC.call [] (g105 Gl k.content (by omega)) (by simp [E.av, E.cells]) ?_
          generalize k.content.namesR = m at hok hnl
          refine hC.go [] 60 ?_
          simp
          refine go_loop (ι := {j : Nat // j ≤ m.length ∧ m.any s.unknown = (m.drop j).any s.unknown}) (fun x => ⟨[(2, .ptr (.loc 2) 0), (7, .pv (strs m)), (8, vI x.1)], [(.loc 2, some (.box 48 s.cells))]⟩)
            (fun x => m.length - x.1) ⟨0, by simp⟩ [] (by simp [Sc.cells]) fun x ih2 => ?_
          obtain ⟨j, hj, hn2⟩ := x
          simp only at hj hn2 ih2
          by_cases hlj : j < m.length
          · have hw2 := wr64 ((j : Int) + 1) (by omega)
            rw [List.drop_eq_getElem_cons hlj, List.any_cons] at hn2
            have hun : s.unknown m[j] = (decide (s.place m[j] < 0) && !decide (m[j] = textK)) := rfl
            refine hC.go [] 60 ?_
            simp [hlj, Sc.cells]
            refine hC.drawn (by kernel_rfl) (by simp [Sc.cells]) ?_
            by_cases ht : m[j] = textK
            · have ht' : m[j] = ⟨#[116, 101, 120, 116]⟩ := ht
              have hu : s.unknown m[j] = false := by rw [hun]; simp [ht]
              rw [hu, Bool.false_or] at hn2
              refine hC.go [] 60 ?_
              simp [hlj, ht', Sc.cells]
              exact go_to [] (ih2 ⟨j + 1, hlj, hn2⟩ (by simp; omega)) (by simp [hw2, Sc.cells])
            · have ht' : ¬ m[j] = ⟨#[116, 101, 120, 116]⟩ := ht
              have hu : s.unknown m[j] = decide (s.place m[j] < 0) := by rw [hun]; simp [ht]
              rw [hu] at hn2
              refine hC.go [] 60 ?_
              simp [hlj, ht', Sc.cells]
              refine hC.call [] (g22 Gl s m[j] hsk) (by simp [Sc.av, Sc.cells]) ?_
              by_cases hp : s.place m[j] < 0
              · have : k.ok s = false := by rw [hok, hn2]; simp [hp]
                refine hC.go [] 60 ?_
                simp [hp, this, Sc.cells]
              · rw [decide_eq_false hp, Bool.false_or] at hn2
                refine hC.go [] 60 ?_
                simp [hp, Sc.cells]
                exact go_to [] (ih2 ⟨j + 1, hlj, hn2⟩ (by simp; omega)) (by simp [hw2, Sc.cells])
          · rw [List.drop_eq_nil_of_le (by omega), List.any_nil] at hn2
            have : k.ok s = true := by rw [hok, hn2]; rfl
            refine hC.go [] 60 ?_
            simp [hlj, this]
end Go.Proofs.D
/-
  THE ANSWER TO CHAPTER 8: is a schema right?
-/
set_option linter.unusedVariables false
set_option linter.unusedSimpArgs false
namespace Go.Proofs.D
open Go Go.Abs Go.RowKit
attribute [local simp] VC VCS stepVS stepTopS firstId memN bigB unmark markT mkOff calmP keepT boundB stepV stepTop stepReg stepOp stMove stPick stBin stUn stConv stBox stAlloc stLoad stStore stFieldAddr stField stExtract stNilCheck stMakeFunc stIndexAddr stIndex stLen
  stBuild placesOf fillA stBuildSlice sliceCells repL chunks allPV toPV drawOk drawOk.go mayMakeO mayMake1 disjoint pairOk Oper.apart Oper.looksAt Op.operands Call.operands Region.binds stAppend appBase appTail unName stSlice bndA
  LS.ev LS.get LS.blk LS.put LS.app LS.upd lkS lkH setS setH Nm.eqb guardOf nexts okPair dstOk AV.cellsOf takeAt putAt lkT sliceE fieldT intK isStrT isBoolT abin newOk LS.freshB LS.freshB.go LS.freshB.goH notIn AV.ments AV.ments.mentsL Blk.ments makes upsMents LS.start startL exitTo T T3 T4 outs callSideR callSideO callSideD upsR backO freshAll argB onlyIO List.map List.append List.nil_append List.cons_append Nat.blt
  conv convS convH srcs srcOf blkOk leA leA.leL Go.Abs.leB leP laid laidM laidG isArg subH retP resAV resL res1 AV.frz AV.frz.frzL evL AV.ren AV.ren.renL Blk.ren renBs blksOf allSome nodupB onlyArgs blksMents callUps keyed inName inName.go backName callSide
set_option maxRecDepth 20000 in
set_option maxHeartbeats 4000000 in
theorem g24 (Gl : Granted) (s : Sc) (hf : s.fit) (hk : s.kinds.length ≤ 1000000) (hm : s.marks.length ≤ 1000000) : Fun Tryz.prog Gl 24 [s.av] [] (vB s.ok) [] := by
  have hsok : s.ok = (kindsFrom s 0 s.kinds && (decide (0 < (s.kinds.length : Int)) && (decide ((s.kinds.length : Int) ≤ 12) && (decide ((s.marks.length : Int) ≤ 12) && rise s.marks)))) := rfl
  refine fun_of (T := T4) (n := 52) (rs := [.tmp 2]) Tryz.func24 (by kernel_rfl) rfl rfl rfl tok4 mixed (by simp) fun C hC => ?_
  refine hC.go [] 60 ?_
  simp [Sc.av, Sc.cells]
  refine go_loop (ι := {i : Nat // i ≤ s.kinds.length ∧ kindsFrom s 0 s.kinds = kindsFrom s i (s.kinds.drop i)}) (fun x => ⟨[(1, .ptr (.loc 1) 0), (3, vI x.1)], [(.loc 1, some (.box 48 s.cells))]⟩)
    (fun x => s.kinds.length - x.1) ⟨0, by simp⟩ [] (by simp [Sc.cells]) fun x ih => ?_
  obtain ⟨i, hi, hn⟩ := x
  simp only at hi hn ih
  by_cases hlt : i < s.kinds.length
  · have hw := wr64 ((i : Int) + 1) (by omega)
    obtain ⟨k, hkk⟩ : ∃ k, s.kinds[i] = k := ⟨_, rfl⟩
    rw [List.drop_eq_getElem_cons hlt, hkk] at hn
    simp only [kindsFrom] at hn
    refine hC.go [] 60 ?_
    simp [hlt, Sc.cells]
    refine hC.drawn (by kernel_rfl) (by simp) ?_
    refine hC.go [] 60 ?_
    simp [hlt, hkk, Kd.pv_eq, E.pv_eq]
    refine hC.call [] (g59 Gl k s (hf.1 k (by rw [← hkk]; simp)) hk) (by simp [Sc.av, Sc.cells, Kd.av, Kd.cells, E.cells]) ?_
    cases hko : k.ok s with
    | false =>
      have : s.ok = false := by rw [hsok, hn, hko]; simp
      refine hC.go [] 60 ?_
      simp [this]
    | true =>
      rw [hko, Bool.and_true] at hn
      refine hC.go [] 60 ?_
      simp [hlt, hkk, Kd.pv_eq, E.pv_eq]
      refine hC.call [] (g22 Gl s k.name hk) (by simp [Sc.av, Sc.cells]) ?_
      by_cases hp : s.place k.name = (i : Int)
      · rw [decide_eq_true hp, Bool.true_and] at hn
        refine hC.go [] 60 ?_
        simp [hp]
        exact go_to [] (ih ⟨i + 1, hlt, hn⟩ (by simp; omega)) (by simp [hw, Sc.cells])
      · have : s.ok = false := by rw [hsok, hn]; simp [hp]
        refine hC.go [] 60 ?_
        simp [hp, this]
  · rw [List.drop_eq_nil_of_le (by omega)] at hn
    simp only [kindsFrom] at hn
    rw [hn, Bool.true_and] at hsok
    have hlt' : ¬ (i : Int) < s.kinds.length := by omega
    by_cases h1 : 1 ≤ (s.kinds.length : Int)
    · have h1' : 1 ≤ s.kinds.length := by omega
      have h1s : 0 < (s.kinds.length : Int) := by omega
      have h1t : 0 < s.kinds.length := by omega
      by_cases h2 : (s.kinds.length : Int) ≤ 12
      · have h2' : s.kinds.length ≤ 12 := by omega
        by_cases h3 : (s.marks.length : Int) ≤ 12
        · have h3' : s.marks.length ≤ 12 := by omega
          simp only [h1s, h2, h3, decide_true, Bool.true_and] at hsok
          refine hC.go [] 60 ?_
          simp [hlt, hlt', Sc.cells, h1, h2, h3, h1', h2', h3', h1s, h1t]
          refine hC.call [] (g60 Gl s.marks hf.2) (by simp [h1, h2, h3, h1', h2', h3', h1s, h1t]) ?_
          refine hC.go [] 60 ?_
          simp [hsok]
        · have h3' : ¬ s.marks.length ≤ 12 := by omega
          have : s.ok = false := by rw [hsok, decide_eq_false h3]; simp
          refine hC.go [] 60 ?_
          simp [hlt, hlt', Sc.cells, h1, h2, h3, h1', h2', h3', h1s, h1t, this]
      · have h2' : ¬ s.kinds.length ≤ 12 := by omega
        have : s.ok = false := by rw [hsok, decide_eq_false h2]; simp
        refine hC.go [] 60 ?_
        simp [hlt, hlt', Sc.cells, h1, h2, h1', h2', h1s, h1t, this]
    · have h1' : ¬ 1 ≤ s.kinds.length := by omega
      have h1s : ¬ 0 < (s.kinds.length : Int) := by omega
      have h1t : s.kinds.length = 0 := by omega
      have : s.ok = false := by rw [hsok, decide_eq_false h1s]; simp
      refine hC.go [] 60 ?_
      simp [hlt, hlt', Sc.cells, h1, h1', h1s, this]
end Go.Proofs.D
