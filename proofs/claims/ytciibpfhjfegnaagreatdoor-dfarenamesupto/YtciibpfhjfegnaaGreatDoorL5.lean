/-
  THE READER: how much it makes; expressions are printed and read.
-/
import Derived.Test.YtciibpfhjfegnaaGreatDoorF3
import Derived.Test.YtciibpfhjfegnaaGreatDoorD10
set_option linter.unusedVariables false
set_option linter.unusedSimpArgs false
namespace Go.Proofs.D
open Go Go.Abs
attribute [local simp] VC VCS stepVS stepTopS firstId memN bigB unmark markT mkOff calmP keepT boundB boundC stepV stepTop stepReg stepOp stMove stPick stBin stUn stConv stBox stAlloc stLoad stStore stFieldAddr stField stExtract stNilCheck stMakeFunc stIndexAddr stIndex stLen
  stBuild placesOf fillA stBuildSlice sliceCells repL chunks allPV toPV drawOk drawOk.go mayMakeO mayMake1 disjoint pairS Oper.apart Oper.looksAt Op.operands Call.operands Region.binds stAppend appBase appTail unName stSlice bndA
  LS.ev LS.get LS.blk LS.put LS.app LS.upd lkS lkH setS setH Nm.eqb guardOf nexts okPair dstOk AV.cellsOf takeAt putAt lkT sliceE fieldT intK isStrT isBoolT abin newOk LS.freshB LS.freshB.go LS.freshB.goH notIn AV.ments AV.ments.mentsL Blk.ments makes upsMents LS.start startL exitTo T Nat.blt
  conv convS convH srcs srcOf blkOk leA leA.leL Go.Abs.leB leP laid laidM laidG isArg subH retP resAV resL res1 AV.frz AV.frz.frzL evL AV.ren AV.ren.renL Blk.ren renBs blksOf allSome nodupB onlyArgs blksMents callUps keyed inName inName.go backName callSide
/-- What a reader makes of a state. -/
structure Made (s : St) (e : E) (t : St) : Prop where
  cnt : (e.cnt : Int) + 1 ≤ 4 * (t.many - s.many)
  top : t.many ≤ 49
  small : e.small
/-- The same, of several. -/
structure MadeL (s : St) (l : List E) (t : St) : Prop where
  cnt : (((l.map fun e => e.cnt + 1).sum : Nat) : Int) ≤ 4 * (t.many - s.many)
  top : t.many ≤ 49
  small : ∀ e ∈ l, e.small
  one : 1 ≤ l.length
theorem none_cnt : E.none.cnt = 1 := rfl
theorem rounds_made {read : St → E × St} {k : Nat} (hp : ∀ s, Ready k s → Post s (read s).2) (hm : ∀ s, Ready k s → Made s (read s).1 (read s).2) (sign : ByteArray) : ∀ (n : Nat) (l : List E) (s0 s : St), Ready k s0 → Post s0 s → MadeL s0 l s →
    MadeL s0 (rounds read sign n l s).1 (rounds read sign n l s).2
  | 0, l, s0, s, h0, h, hl => hl
  | n + 1, l, s0, s, h0, h, hl => by
    simp only [rounds]
    split
    · exact hl
    · rename_i hb
      have hr := (h0.post h (by simpa using hb)).cut sign
      split
      · have q := hm _ hr
        refine rounds_made hp hm sign n _ s0 _ h0 ((h.cut sign).trans (hp _ hr)) ⟨?_, q.top, ?_, by simp⟩
        · have := q.cnt
          have := hl.cnt
          simp [St.cut] at *
          omega
        · intro e he
          rcases List.mem_append.1 he with h | h
          · exact hl.small e h
          · simp at h; subst h; exact q.small
      · exact ⟨hl.cnt, hl.top, hl.small, hl.one⟩
theorem sum_succ (l : List E) : (l.map fun e => e.cnt + 1).sum = (l.map E.cnt).sum + l.length := by
  induction l with
  | nil => rfl
  | cons x l ih => simp [ih]; omega
theorem several_made {read : St → E × St} {k : Nat} (hp : ∀ s, Ready k s → Post s (read s).2) (hm : ∀ s, Ready k s → Made s (read s).1 (read s).2) (op : Int) (sign : ByteArray) (s : St) (h : Ready k s) : Made s (several read op sign s).1 (several read op sign s).2 := by
  unfold several
  have q := hm s h
  have hr := rounds_made hp hm sign (s.left.size + 1) [(read s).1] s (read s).2 h (hp s h) ⟨by have := q.cnt; simpa using this, q.top, by simpa using q.small, by simp⟩
  generalize rounds read sign (s.left.size + 1) [(read s).1] (read s).2 = R at hr
  obtain ⟨l, t⟩ := R
  dsimp only at hr ⊢
  have hc := hr.cnt
  have ho := hr.one
  match l, hr, hc, ho with
  | [], hr, _, ho => simp at ho
  | [e], hr, hc, _ => exact ⟨by simpa using hc, hr.top, hr.small e (by simp)⟩
  | x :: y :: l, hr, hc, _ =>
    refine ⟨?_, hr.top, E.small_mk (by decide) hr.small⟩
    rw [sum_succ] at hc
    rw [cnt_eq]
    show ((1 + ((x :: y :: l).map E.cnt).sum : Nat) : Int) + 1 ≤ _
    simp at hc ⊢
    omega
theorem sfx_made (e : E) (s0 : St) (hs : e.small) : ∀ (l : List Int) (s : St), (e.cnt : Int) + 2 ≤ 4 * (s.many - s0.many) → s.many ≤ 49 → Made s0 (sfx e l s).1 (sfx e l s).2
  | [], s, h, ht => ⟨by simp only [sfx]; omega, ht, hs⟩
  | o :: l, s, h, ht => by
    simp only [sfx]
    split
    · refine ⟨?_, ht, E.small_mk (by decide) (by simpa using hs)⟩
      rw [cnt_eq]
      simp [E.kids, St.cut]
      omega
    · exact sfx_made e s0 hs l _ h ht
theorem itemN_made {tl : ByteArray → ByteArray} (htl : ∀ s, (tl s).size ≤ s.size) : ∀ (k : Nat) (s : St), Ready k s → Made s (itemN tl k s).1 (itemN tl k s).2
  | 0, s, h => by have := h.fuel; have := h.few; omega
  | k + 1, s, h => by
    simp only [itemN, itemF]
    have hw := wr64 (s.many + 1) (by have := h.many; have := h.few; omega)
    have hf := h.few
    split
    · exact ⟨by simp only [hw, none_cnt]; omega, by simp only [hw]; omega, E.small_mk (by decide) (by simp)⟩
    · rename_i h48
      rw [hw] at h48 ⊢
      have hr : Ready k { s with many := s.many + 1 } := ⟨h.bad, by have := h.many; simp; omega, by simp; omega, by have := h.fuel; simp; omega, h.size⟩
      have hseq : ∀ q, Ready k q → Post q (several (itemN tl k) 115 ⟨#[32]⟩ q).2 := fun q hq => several_post (itemN_post htl k) 115 ⟨#[32]⟩ q hq
      have hseqm : ∀ q, Ready k q → Made q (several (itemN tl k) 115 ⟨#[32]⟩ q).1 (several (itemN tl k) 115 ⟨#[32]⟩ q).2 := fun q hq => several_made (itemN_post htl k) (itemN_made htl k) 115 ⟨#[32]⟩ q hq
      have halt := fun q hq => several_made hseq hseqm 97 ⟨#[124]⟩ q hq
      have key : (baseF tl (several (several (itemN tl k) 115 ⟨#[32]⟩) 97 ⟨#[124]⟩) { s with many := s.many + 1 }).1.small ∧ ((baseF tl (several (several (itemN tl k) 115 ⟨#[32]⟩) 97 ⟨#[124]⟩) { s with many := s.many + 1 }).1.cnt : Int) + 2 ≤ 4 * ((baseF tl (several (several (itemN tl k) 115 ⟨#[32]⟩) 97 ⟨#[124]⟩) { s with many := s.many + 1 }).2.many - s.many) ∧ (baseF tl (several (several (itemN tl k) 115 ⟨#[32]⟩) 97 ⟨#[124]⟩) { s with many := s.many + 1 }).2.many ≤ 49 := by
        unfold baseF
        split
        · refine ⟨E.small_mk (by decide) (by simp), ?_, ?_⟩
          · rw [cnt_eq]; simp [E.kids, St.cut]; omega
          · simp [St.cut]; omega
        · dsimp only
          split
          · have hr2 := (hr.cut ⟨#[40, 41]⟩).cut ⟨#[40]⟩
            have hq := halt _ hr2
            have hc := hq.cnt
            simp [St.cut] at hc
            refine ⟨hq.small, ?_, hq.top⟩
            simp [St.cut]
            omega
          · refine ⟨E.small_mk ?_ (by simp), ?_, ?_⟩
            · have := ((hr.cut ⟨#[40, 41]⟩).cut ⟨#[40]⟩).size
              simp [ByteArray.size_extract] at this ⊢
              omega
            · rw [cnt_eq]; simp [E.kids, St.cut]; omega
            · simp [St.cut]; omega
      exact sfx_made _ s key.1 _ _ key.2.1 key.2.2
theorem altN_made {tl : ByteArray → ByteArray} (htl : ∀ s, (tl s).size ≤ s.size) (s : St) (h : Ready 49 s) : Made s (altN tl s).1 (altN tl s).2 :=
  several_made (fun q hq => several_post (itemN_post htl 49) 115 ⟨#[32]⟩ q hq) (fun q hq => several_made (itemN_post htl 49) (itemN_made htl 49) 115 ⟨#[32]⟩ q hq) 97 ⟨#[124]⟩ s h
/-- Printed: the text, and an error's number. -/
def E.print (e : E) : ByteArray × Int := if e.right = true then (e.text false, 0) else (⟨#[]⟩, 2)
theorem f17 (Gl : Granted) (e : E) (hs : e.small) (hc : e.cnt ≤ 1000000) : Fun Tryz.prog Gl 73 [e.av] [] (.tup [vS e.print.1, vI e.print.2]) [] := by
  refine fun_of (T := T) (n := 9) (rs := [.tmp 2, .tmp 3]) Tryz.func73 (by kernel_rfl) rfl rfl rfl tok mixed (by simp) fun C hC => ?_
  refine hC.vc [] 60 ?_
  simp [E.av, E.cells]
  refine hC.call [] (f18 Gl e hs) (by simp [E.av, E.cells]) ?_
  refine hC.vc [] 60 ?_
  cases hr : e.right with
  | false => simp [E.print, hr]
  | true =>
    have hok : e.ok = true := by simp [E.right] at hr; exact hr.2
    simp
    refine hC.call [] (f31 Gl e false hok hc) (by simp [E.av, E.cells]) ?_
    refine hC.vc [] 60 ?_
    simp [E.print, hr]
/-- strings.TrimLeft, of small letters. -/
def tl (s : ByteArray) : ByteArray := ⟨(Lib.trimLeftS s.data.toList low.data.toList).toArray⟩
theorem tl_size (s : ByteArray) : (tl s).size ≤ s.size := by
  have : (s.data.toList.dropWhile (low.data.toList.contains ·)).length ≤ s.data.toList.length := (List.dropWhile_sublist _).length_le
  have e1 : (tl s).size = (s.data.toList.dropWhile (low.data.toList.contains ·)).length := List.size_toArray
  have e2 : s.size = s.data.toList.length := Array.length_toList.symm
  omega
def read (s : ByteArray) : E × St := altN tl ⟨s, false, 0⟩
/-- The expression of a text, and an error's number. -/
def parse (s : ByteArray) : E × Int := if (read s).2.bad = false ∧ (read s).2.left = ⟨#[]⟩ ∧ (read s).1.right = true ∧ (read s).1.text false = s then ((read s).1, 0) else (E.none, 2)
set_option maxRecDepth 20000 in
theorem f13 (Gl : Granted) (s : ByteArray) (hs : s.size ≤ 1000000000) : Fun Tryz.prog Gl 42 [vS s] [] (.tup [(parse s).1.av, vI (parse s).2]) [] := by
  have h0 : Ready 49 ⟨s, false, 0⟩ := ⟨rfl, by simp, by simp, by simp, hs⟩
  have hm := altN_made tl_size _ h0
  have hcnt : (read s).1.cnt ≤ 1000000 := by
    have a : ((altN tl ⟨s, false, 0⟩).1.cnt : Int) + 1 ≤ 4 * ((altN tl ⟨s, false, 0⟩).2.many - 0) := hm.cnt
    have b := hm.top
    show (altN tl ⟨s, false, 0⟩).1.cnt ≤ 1000000
    omega
  have hsm : (read s).1.small := hm.small
  have hp : parse s = if (read s).2.bad = false ∧ (read s).2.left = ⟨#[]⟩ ∧ (read s).1.right = true ∧ (read s).1.text false = s then ((read s).1, 0) else (E.none, 2) := rfl
  generalize parse s = pr at hp ⊢
  subst hp
  refine fun_of (T := T) (n := 40) (rs := [.cell 2 24, .tmp 3]) Tryz.func42 (by kernel_rfl) rfl rfl rfl tok mixed (by simp) fun C hC => ?_
  refine hC.vc [] 60 ?_
  simp
  refine hC.call [.loc 10] (f28_start Gl tl (f99 Gl) tl_size ⟨s, false, 0⟩ h0) (by simp [E.av, E.cells]) ?_
  have hrd : altN tl ⟨s, false, 0⟩ = read s := rfl
  rw [hrd]
  generalize read s = R at hcnt hsm hC ⊢
  obtain ⟨e, r⟩ := R
  dsimp only at hcnt hsm hC ⊢
  refine hC.vc [] 60 ?_
  simp [E.av, E.cells]
  refine hC.call [] (f17 Gl e hsm hcnt) (by simp [E.av, E.cells]) ?_
  refine hC.vc [] 60 ?_
  cases hb : r.bad with
  | true => simp [E.none, E.op, E.name, E.kids, E.av, E.cells]
  | false =>
    by_cases hl : r.left = ⟨#[]⟩
    · cases hr : e.right with
      | false => simp [hl, E.print, hr, E.none, E.op, E.name, E.kids, E.av, E.cells]
      | true =>
        by_cases ht : e.text false = s
        · simp [hl, E.print, hr, ht, E.av, E.cells]
        · simp [hl, E.print, hr, ht, E.none, E.op, E.name, E.kids, E.av, E.cells]
    · simp [hl, E.none, E.op, E.name, E.kids, E.av, E.cells]
end Go.Proofs.D
/-
  TABLES: what they mean; the least one of what is meant is one alone.
-/
set_option linter.unusedVariables false
set_option linter.unusedSimpArgs false
namespace Go.Proofs.D
open Go Go.Abs
/-- A table: names, of each state the next ones, and whether a row may end there. -/
structure Au where
  names : List ByteArray
  next : List (List Int)
  final : List Bool
def Au.stp (d : Au) (s : Int) (a : ByteArray) : Int := if s < 0 then -1 else ((d.next[s.toNat]?).getD []).getD (ixK a d.names) (-1)
def Au.run (d : Au) (s : Int) (w : Row) : Int := w.foldl d.stp s
def Au.acc (d : Au) (s : Int) : Bool := decide (0 ≤ s) && d.final.getD s.toNat false
theorem run_nil (d : Au) (s : Int) : d.run s [] = s := rfl
theorem run_cons (d : Au) (s : Int) (a : ByteArray) (w : Row) : d.run s (a :: w) = d.run (d.stp s a) w := rfl
theorem run_append (d : Au) (s : Int) (u v : Row) : d.run s (u ++ v) = d.run (d.run s u) v := by simp [Au.run]
theorem stp_neg (d : Au) {s : Int} (h : s < 0) (a : ByteArray) : d.stp s a = -1 := by simp [Au.stp, h]
theorem stp_not (d : Au) (s : Int) {a : ByteArray} (h : a ∉ d.names) (hr : ∀ r ∈ d.next, r.length = d.names.length) : d.stp s a = -1 := by
  unfold Au.stp
  split
  · rfl
  · rw [ixK_not h]
    cases hn : d.next[s.toNat]? with
    | none => simp
    | some r => simp [hr r (List.mem_of_getElem? hn)]
/-- A table means, from each state on, the rows that L tells. -/
structure Sem0 (d : Au) (L : Nat → Row → Prop) : Prop where
  pos : 0 < d.next.length
  len : d.final.length = d.next.length
  row : ∀ r ∈ d.next, r.length = d.names.length
  fin : ∀ i, i < d.next.length → (d.final.getD i false = true ↔ L i [])
  step : ∀ i, i < d.next.length → ∀ a ∈ d.names, (d.stp i a = -1 ∧ ∀ w, ¬ L i (a :: w)) ∨ ∃ m : Nat, d.stp i a = m ∧ m < d.next.length ∧ ∀ w, L i (a :: w) ↔ L m w
  only : ∀ i, i < d.next.length → ∀ a w, L i (a :: w) → a ∈ d.names
/-- .. and none is dead. -/
structure Sem (d : Au) (L : Nat → Row → Prop) : Prop extends Sem0 d L where
  live : ∀ i, i < d.next.length → ∃ w, L i w
/-- .. of a state, or of none. -/
def LI (L : Nat → Row → Prop) (s : Int) (w : Row) : Prop := 0 ≤ s ∧ L s.toNat w
def Au.st (d : Au) (s : Int) : Prop := s = -1 ∨ (0 ≤ s ∧ s.toNat < d.next.length)
section
variable {d : Au} {L : Nat → Row → Prop} (h : Sem0 d L)
include h
theorem sem_step {s : Int} (hs : d.st s) (a : ByteArray) : d.st (d.stp s a) ∧ ∀ w, LI L s (a :: w) ↔ LI L (d.stp s a) w := by
  rcases hs with rfl | ⟨h0, hs⟩
  · rw [stp_neg d (by decide)]
    exact ⟨.inl rfl, fun w => Iff.rfl.trans ⟨fun h => absurd h.1 (by decide), fun h => absurd h.1 (by decide)⟩⟩
  · have e : ((s.toNat : Nat) : Int) = s := Int.toNat_of_nonneg h0
    by_cases ha : a ∈ d.names
    · rcases h.step s.toNat hs a ha with ⟨h1, h2⟩ | ⟨m, h1, h2, h3⟩
      · rw [e] at h1
        rw [h1]
        exact ⟨.inl rfl, fun w => ⟨fun q => absurd q.2 (h2 w), fun q => absurd q.1 (by decide)⟩⟩
      · rw [e] at h1
        rw [h1]
        refine ⟨.inr ⟨by omega, by simpa using h2⟩, fun w => ?_⟩
        unfold LI
        rw [h3 w]
        simp [h0]
    · rw [stp_not d s ha h.row]
      exact ⟨.inl rfl, fun w => ⟨fun q => absurd (h.only _ hs a w q.2) ha, fun q => absurd q.1 (by decide)⟩⟩
theorem sem_run : ∀ (w : Row) {s : Int}, d.st s → d.st (d.run s w) ∧ ∀ v, LI L s (w ++ v) ↔ LI L (d.run s w) v
  | [], s, hs => ⟨hs, fun v => Iff.rfl⟩
  | a :: w, s, hs => by
    obtain ⟨h1, h2⟩ := sem_step h hs a
    obtain ⟨h3, h4⟩ := sem_run w h1
    exact ⟨h3, fun v => (h2 (w ++ v)).trans (h4 v)⟩
theorem sem_acc {s : Int} (hs : d.st s) : d.acc s = true ↔ LI L s [] := by
  unfold Au.acc LI
  rcases hs with rfl | ⟨h0, hs⟩
  · simp
  · have := h.fin _ hs
    simp only [Bool.and_eq_true, decide_eq_true_eq, this]
theorem st0 : d.st 0 := .inr ⟨Int.le_refl _, h.pos⟩
theorem sem_has (w : Row) : d.acc (d.run 0 w) = true ↔ L 0 w := by
  obtain ⟨h1, h2⟩ := sem_run h w (st0 h)
  rw [sem_acc h h1, ← h2 [], List.append_nil]
  exact ⟨fun q => q.2, fun q => ⟨Int.le_refl _, q⟩⟩
end
theorem sem_dead {d : Au} {L : Nat → Row → Prop} (h : Sem d L) {s : Int} (hs : d.st s) (hd : ∀ w, ¬ LI L s w) : s = -1 := by
  rcases hs with rfl | ⟨h0, hs⟩
  · rfl
  · obtain ⟨w, hw⟩ := h.live _ hs
    exact absurd ⟨h0, hw⟩ (hd w)
/-- No two states mean the same; they are numbered as they are met. -/
structure Least (d : Au) (L : Nat → Row → Prop) : Prop where
  sem : Sem d L
  apart : ∀ i j, i < d.next.length → j < d.next.length → (∀ w, L i w ↔ L j w) → i = j
  ord : tabOrd 0 0 d.next = some ((d.next.length : Int) - 1)
theorem least_eq {d : Au} {L : Nat → Row → Prop} (h : Least d L) {s t : Int} (hs : d.st s) (ht : d.st t) (he : ∀ w, LI L s w ↔ LI L t w) : s = t := by
  by_cases h0 : 0 ≤ s
  · by_cases h1 : 0 ≤ t
    · have hs' : s.toNat < d.next.length := by rcases hs with rfl | hs; exact absurd h0 (by decide); exact hs.2
      have ht' : t.toNat < d.next.length := by rcases ht with rfl | ht; exact absurd h1 (by decide); exact ht.2
      have := h.apart _ _ hs' ht' fun w => ⟨fun q => ((he w).1 ⟨h0, q⟩).2, fun q => ((he w).2 ⟨h1, q⟩).2⟩
      omega
    · have := sem_dead h.sem hs fun w q => h1 ((he w).1 q).1
      omega
  · have := sem_dead h.sem ht fun w q => h0 ((he w).2 q).1
    rcases hs with rfl | hs
    · omega
    · omega
theorem getRow {d : Au} {L : Nat → Row → Prop} (h : Sem0 d L) {i j : Nat} {r : List Int} {a : ByteArray} (hn : d.names.Nodup) (hr : d.next[i]? = some r) (ha : d.names[j]? = some a) : r[j]? = some (d.stp i a) := by
  have hl := h.row r (List.mem_of_getElem? hr)
  have hj := (List.getElem?_eq_some_iff.1 ha).1
  have hix : ixK a d.names = j := by
    have h1 := ixK_mem (List.mem_of_getElem? ha)
    obtain ⟨p1, p2⟩ := List.getElem?_eq_some_iff.1 h1
    obtain ⟨q1, q2⟩ := List.getElem?_eq_some_iff.1 ha
    rcases Nat.lt_trichotomy (ixK a d.names) j with g | g | g
    · exact absurd (p2.trans q2.symm) (List.pairwise_iff_getElem.1 hn _ _ p1 q1 g)
    · exact g
    · exact absurd (q2.trans p2.symm) (List.pairwise_iff_getElem.1 hn _ _ q1 p1 g)
  unfold Au.stp
  rw [if_neg (by omega), Int.toNat_natCast, hr, hix, Option.getD_some]
  have : j < r.length := by omega
  rw [List.getElem?_eq_getElem this]
  simp [List.getD, this]
/-- Rows of two tables that are numbered as they are met, whose numbers answer to one another, are one. -/
theorem row_one {P : Int → Int → Prop} (hP : ∀ s t t', P s t → P s t' → t = t') (hP' : ∀ s s' t, P s t → P s' t → s = s') : ∀ (r r' : List Int) (m n n' : Int), 0 ≤ m → P (-1) (-1) → (∀ s, 0 ≤ s → s ≤ m → P s s) → r.length = r'.length → (∀ (j : Nat) (s t : Int), r[j]? = some s → r'[j]? = some t → P s t) →
    rowOrd m r = some n → rowOrd m r' = some n' → r = r' ∧ n = n' ∧ m ≤ n ∧ ∀ s, 0 ≤ s → s ≤ n → P s s
  | [], [], m, n, n', h0, hd, hm, _, _, h1, h2 => by
    simp only [rowOrd, Option.some.injEq] at h1 h2
    subst h1 h2
    exact ⟨rfl, rfl, Int.le_refl _, hm⟩
  | [], _ :: _, m, n, n', h0, hd, hm, hl, _, h1, h2 => by simp at hl
  | _ :: _, [], m, n, n', h0, hd, hm, hl, _, h1, h2 => by simp at hl
  | s :: r, t :: r', m, n, n', h0, hd, hm, hl, hj, h1, h2 => by
    simp only [rowOrd] at h1 h2
    split at h1
    · rename_i g1
      split at h2
      · rename_i g2
        have hst := hj 0 s t rfl rfl
        have est : s = t := by
          by_cases hs : s ≤ m
          · by_cases hs0 : 0 ≤ s
            · exact hP s s t (hm s hs0 hs) hst
            · have : s = -1 := by omega
              subst this
              exact hP (-1) (-1) t hd hst
          · by_cases ht : t ≤ m
            · by_cases ht0 : 0 ≤ t
              · exact (hP' t s t (hm t ht0 ht) hst).symm
              · have : t = -1 := by omega
                subst this
                exact (hP' (-1) s (-1) hd hst).symm
            · omega
        subst est
        obtain ⟨a, b, c, e⟩ := row_one hP hP' r r' (max m s) n n' (by omega) hd (fun x x0 hx => by
          by_cases hxm : x ≤ m
          · exact hm x x0 hxm
          · have : x = s := by omega
            rw [this]; exact hst) (by simpa using hl) (fun j s t a b => hj (j + 1) s t (by simpa using a) (by simpa using b)) h1 h2
        exact ⟨by rw [a], b, by omega, e⟩
      · cases h2
    · cases h1
/-- ONE ALONE: two least tables over the same names, that mean the same, are one. -/
theorem least_one {d d' : Au} {L L' : Nat → Row → Prop} (h : Least d L) (h' : Least d' L') (hn : d.names.Nodup) (hnn : d.names = d'.names) (h0 : ∀ w, L 0 w ↔ L' 0 w) : d.next = d'.next ∧ d.final = d'.final := by
  let P : Int → Int → Prop := fun s t => d.st s ∧ d'.st t ∧ ∀ w, LI L s w ↔ LI L' t w
  have hP : ∀ s t t', P s t → P s t' → t = t' := fun s t t' a b => least_eq h' a.2.1 b.2.1 fun w => (a.2.2 w).symm.trans (b.2.2 w)
  have hP' : ∀ s s' t, P s t → P s' t → s = s' := fun s s' t a b => least_eq h a.1 b.1 fun w => (a.2.2 w).trans (b.2.2 w).symm
  have hd : P (-1) (-1) := ⟨.inl rfl, .inl rfl, fun w => ⟨fun q => absurd q.1 (by decide), fun q => absurd q.1 (by decide)⟩⟩
  have tab : ∀ (k i : Nat) (m n n' : Int), k = d.next.length - i → 0 ≤ m → (∀ s, 0 ≤ s → s ≤ m → P s s) → tabOrd i m (d.next.drop i) = some n → tabOrd i m (d'.next.drop i) = some n' → d.next.length = n + 1 → d'.next.length = n' + 1 →
      d.next.drop i = d'.next.drop i ∧ ∀ s, 0 ≤ s → s ≤ n → P s s := by
    intro k
    induction k with
    | zero =>
      intro i m n n' hk hm0 hm h1 h2 e1 e2
      rw [List.drop_eq_nil_of_le (by omega)] at h1
      simp only [tabOrd, Option.some.injEq] at h1
      subst h1
      cases hd' : d'.next.drop i with
      | nil => exact ⟨by rw [List.drop_eq_nil_of_le (by omega)], hm⟩
      | cons r l =>
        exfalso
        rw [hd'] at h2
        simp only [tabOrd] at h2
        split at h2
        · rename_i g
          omega
        · cases h2
    | succ k ih =>
      intro i m n n' hk hm0 hm h1 h2 e1 e2
      have hi : i < d.next.length := by omega
      rw [List.drop_eq_getElem_cons hi] at h1
      simp only [tabOrd] at h1
      split at h1
      · rename_i g
        have hPi := hm i (by omega) g
        have hi' : i < d'.next.length := by
          rcases hPi.2.1 with q | q
          · omega
          · have := q.2; simpa using this
        rw [List.drop_eq_getElem_cons hi'] at h2
        simp only [tabOrd, if_pos g] at h2
        cases hr1 : rowOrd m d.next[i] with
        | none => rw [hr1] at h1; cases h1
        | some m1 =>
          cases hr2 : rowOrd m d'.next[i] with
          | none => rw [hr2] at h2; cases h2
          | some m2 =>
            rw [hr1] at h1
            rw [hr2] at h2
            simp only [Option.bind_some] at h1 h2
            have g1 : d.next[i]? = some d.next[i] := by simp
            have g2 : d'.next[i]? = some d'.next[i] := by simp
            have l1 := h.sem.row d.next[i] (List.getElem_mem _)
            have l2 := h'.sem.row d'.next[i] (List.getElem_mem _)
            obtain ⟨a, b, c, e⟩ := row_one hP hP' d.next[i] d'.next[i] m m1 m2 hm0 hd hm (by rw [l1, l2, hnn]) (fun j s t hs ht => by
              have hj := (List.getElem?_eq_some_iff.1 hs).1
              have hj1 : j < d.names.length := by omega
              have ha : d.names[j]? = some d.names[j] := by simp
              have ha' : d'.names[j]? = some d.names[j] := by rw [← hnn]; exact ha
              have q1 := getRow h.sem.toSem0 hn g1 ha
              have q2 := getRow h'.sem.toSem0 (hnn ▸ hn) g2 ha'
              rw [hs] at q1
              rw [ht] at q2
              cases q1
              cases q2
              obtain ⟨x1, x2⟩ := sem_step h.sem.toSem0 hPi.1 d.names[j]
              obtain ⟨y1, y2⟩ := sem_step h'.sem.toSem0 hPi.2.1 d.names[j]
              exact ⟨x1, y1, fun w => (x2 w).symm.trans ((hPi.2.2 _).trans (y2 w))⟩) hr1 hr2
            subst b
            obtain ⟨x, y⟩ := ih (i + 1) m1 n n' (by omega) (by omega) e h1 h2 e1 e2
            refine ⟨?_, y⟩
            rw [List.drop_eq_getElem_cons hi, List.drop_eq_getElem_cons hi', a, x]
      · cases h1
  have p1 := h.sem.pos
  have p2 := h'.sem.pos
  obtain ⟨a, b⟩ := tab _ 0 0 _ _ rfl (Int.le_refl _) (fun s s0 s1 => by
    have : s = 0 := by omega
    subst this
    refine ⟨st0 h.sem.toSem0, st0 h'.sem.toSem0, fun w => ?_⟩
    unfold LI
    simp [h0 w]) h.ord h'.ord (by omega) (by omega)
  simp only [List.drop_zero] at a
  refine ⟨a, ?_⟩
  apply List.ext_getElem?
  intro i
  have f1 := h.sem.len
  have f2 := h'.sem.len
  by_cases hi : i < d.next.length
  · have hi' : i < d'.next.length := by rw [← a]; exact hi
    have hp := b i (by omega) (by omega)
    have e : d.final.getD i false = d'.final.getD i false := by
      rw [Bool.eq_iff_iff, h.sem.fin i hi, h'.sem.fin i hi']
      have := hp.2.2 []
      unfold LI at this
      simpa using this
    have l1 : i < d.final.length := by omega
    have l2 : i < d'.final.length := by omega
    rw [List.getElem?_eq_getElem l1, List.getElem?_eq_getElem l2]
    simpa [List.getD, l1, l2] using e
  · have : d'.next.length = d.next.length := by rw [a]
    rw [List.getElem?_eq_none (by omega), List.getElem?_eq_none (by omega)]
end Go.Proofs.D
/-
  AN EXPRESSION THAT IS WRITTEN IS READ AS IT WAS.
-/
set_option linter.unusedVariables false
set_option linter.unusedSimpArgs false
namespace Go.Proofs.D
open Go Go.Abs
abbrev B (l : List UInt8) : ByteArray := ⟨l.toArray⟩
theorem B_data (s : ByteArray) : B s.data.toList = s := by obtain ⟨a⟩ := s; simp [B]
theorem B_size (l : List UInt8) : (B l).size = l.length := List.size_toArray
theorem B_list (l : List UInt8) : (B l).data.toList = l := by simp [B]
theorem B_inj {l m : List UInt8} (h : B l = B m) : l = m := by
  have := congrArg (fun s : ByteArray => s.data.toList) h
  simpa [B] using this
theorem ext_list {s t : ByteArray} (h : s.data.toList = t.data.toList) : s = t := by rw [← B_data s, ← B_data t, h]
theorem app_list (s t : ByteArray) : (s ++ t).data.toList = s.data.toList ++ t.data.toList := by simp [ByteArray.data_append]
theorem extract_list (s : ByteArray) (i j : Nat) : (s.extract i j).data.toList = (s.data.toList.take j).drop i := by
  rw [ByteArray.data_extract]
  simp [Array.toList_extract, List.drop_take]
theorem hp_iff (l p : List UInt8) : hasPre (B l) (B p) = true ↔ ∃ r, l = p ++ r := by
  simp only [hasPre, Bool.and_eq_true, decide_eq_true_eq, B_size]
  constructor
  · rintro ⟨h1, h2⟩
    have h3 := congrArg (fun s : ByteArray => s.data.toList) h2
    simp only [extract_list, B_list, List.drop_zero] at h3
    exact ⟨l.drop p.length, by rw [← h3, List.length_take, Nat.min_eq_left h1]; exact (List.take_append_drop _ _).symm⟩
  · rintro ⟨r, rfl⟩
    refine ⟨by simp, ext_list ?_⟩
    rw [extract_list, B_list, B_list]
    simp
theorem hp_yes (p r : List UInt8) : hasPre (B (p ++ r)) (B p) = true := (hp_iff _ _).2 ⟨r, rfl⟩
theorem hp_one (l : List UInt8) (c : UInt8) : hasPre (B l) (B [c]) = true ↔ l.head? = some c := by
  rw [hp_iff]
  cases l with
  | nil => simp
  | cons x l => simp [eq_comm]
theorem hp_one_no {l : List UInt8} {c : UInt8} (h : l.head? ≠ some c) : hasPre (B l) (B [c]) = false := by
  cases hh : hasPre (B l) (B [c]) with
  | false => rfl
  | true => exact absurd ((hp_one l c).1 hh) h
theorem cp_yes (p r : List UInt8) : cutPre (B (p ++ r)) (B p) = B r := by
  unfold cutPre
  rw [if_pos (hp_yes p r)]
  refine ext_list ?_
  rw [extract_list, B_list, B_list, B_size, B_size, List.take_length]
  simp
theorem cp_no {s p : ByteArray} (h : hasPre s p = false) : cutPre s p = s := by simp [cutPre, h]
def isLow (c : UInt8) : Bool := decide (97 ≤ c.toNat) && decide (c.toNat ≤ 122)
theorem tl_B (l : List UInt8) : tl (B l) = B (l.dropWhile isLow) := by
  unfold tl Lib.trimLeftS
  rw [B_list]
  have : (fun b => low.data.toList.contains b) = isLow := by funext b; exact low_contains b
  rw [this]
/-- What a reader reads of a text, if what is behind is as C says; w: how many items it may take. -/
def Reads (read : St → E × St) (txt : List UInt8) (e : E) (w : Nat) (C : List UInt8 → Prop) : Prop :=
  ∀ (r : List UInt8) (m : Int), C r → 0 ≤ m → m + w ≤ 48 → ∃ m' : Int, m ≤ m' ∧ m' ≤ m + w ∧ read ⟨B (txt ++ r), false, m⟩ = (e, ⟨B r, false, m'⟩)
def tailT (sign : UInt8) (txt : E → List UInt8) (xs : List E) : List UInt8 := (xs.map fun y => sign :: txt y).flatten
theorem tailT_len (sign : UInt8) (txt : E → List UInt8) : ∀ xs : List E, xs.length ≤ (tailT sign txt xs).length
  | [] => by simp
  | y :: ys => by have := tailT_len sign txt ys; simp [tailT] at this ⊢; omega
theorem rounds_reads {read : St → E × St} {sign : UInt8} {C : List UInt8 → Prop} (hC : ∀ r, C (sign :: r)) (txt : E → List UInt8) (w : E → Nat) : ∀ (xs : List E), (∀ y ∈ xs, Reads read (txt y) y (w y) C) → ∀ (n : Nat) (acc : List E) (r : List UInt8) (m : Int),
    xs.length < n → C r → r.head? ≠ some sign → 0 ≤ m → m + (xs.map w).sum ≤ 48 → ∃ m' : Int, m ≤ m' ∧ m' ≤ m + (xs.map w).sum ∧ rounds read (B [sign]) n acc ⟨B (tailT sign txt xs ++ r), false, m⟩ = (acc ++ xs, ⟨B r, false, m'⟩)
  | [], _, n, acc, r, m, hn, hr, hh, h0, hm => by
    obtain ⟨n, rfl⟩ : ∃ k, n = k + 1 := ⟨n - 1, by simp at hn; omega⟩
    refine ⟨m, Int.le_refl _, by simp, ?_⟩
    have := hp_one_no hh
    simp [rounds, tailT, this, St.cut, cp_no this]
  | y :: ys, hr', n, acc, r, m, hn, hr, hh, h0, hm => by
    obtain ⟨n, rfl⟩ : ∃ k, n = k + 1 := ⟨n - 1, by simp at hn; omega⟩
    have e1 : tailT sign txt (y :: ys) ++ r = [sign] ++ (txt y ++ (tailT sign txt ys ++ r)) := by simp [tailT]
    have hC' : C (tailT sign txt ys ++ r) := by
      cases ys with
      | nil => simpa [tailT] using hr
      | cons z zs => simp only [tailT, List.map_cons, List.flatten_cons, List.cons_append]; exact hC _
    simp only [List.map_cons, List.sum_cons] at hm ⊢
    obtain ⟨m1, a1, a2, a3⟩ := hr' y (by simp) (tailT sign txt ys ++ r) m hC' h0 (by omega)
    obtain ⟨m2, b1, b2, b3⟩ := rounds_reads hC txt w ys (fun z hz => hr' z (by simp [hz])) n (acc ++ [y]) r m1 (by simp at hn; omega) hr hh (by omega) (by omega)
    refine ⟨m2, by omega, by omega, ?_⟩
    have hc : (⟨B (tailT sign txt (y :: ys) ++ r), false, m⟩ : St).cut (B [sign]) = ⟨B (txt y ++ (tailT sign txt ys ++ r)), false, m⟩ := by
      simp only [St.cut, e1, cp_yes]
    have hp : hasPre (⟨B (tailT sign txt (y :: ys) ++ r), false, m⟩ : St).left (B [sign]) = true := by
      show hasPre (B (tailT sign txt (y :: ys) ++ r)) (B [sign]) = true
      rw [e1]; exact hp_yes _ _
    simp only [rounds, hp, hc, a3]
    simpa using b3
theorem several_reads {read : St → E × St} {sign : UInt8} {C : List UInt8 → Prop} (hC : ∀ r, C (sign :: r)) (txt : E → List UInt8) (w : E → Nat) (op : Int) (x : E) (xs : List E) (h : ∀ y ∈ x :: xs, Reads read (txt y) y (w y) C) :
    Reads (several read op (B [sign])) (txt x ++ tailT sign txt xs) (match x :: xs with | [e] => e | l => .mk op ⟨#[]⟩ l) (((x :: xs).map w).sum) (fun r => C r ∧ r.head? ≠ some sign) := by
  intro r m ⟨hr, hh⟩ h0 hm
  simp only [List.map_cons, List.sum_cons] at hm ⊢
  have hC' : C (tailT sign txt xs ++ r) := by
    cases xs with
    | nil => simpa [tailT] using hr
    | cons z zs => simp only [tailT, List.map_cons, List.flatten_cons, List.cons_append]; exact hC _
  obtain ⟨m1, a1, a2, a3⟩ := h x (by simp) (tailT sign txt xs ++ r) m hC' h0 (by omega)
  have hlen : xs.length < (B (txt x ++ tailT sign txt xs ++ r)).size + 1 := by
    rw [B_size]
    have := tailT_len sign txt xs
    simp
    omega
  obtain ⟨m2, b1, b2, b3⟩ := rounds_reads hC txt w xs (fun z hz => h z (by simp [hz])) ((B (txt x ++ tailT sign txt xs ++ r)).size + 1) [x] r m1 hlen hr hh (by omega) (by omega)
  refine ⟨m2, by omega, by omega, ?_⟩
  rw [List.append_assoc] at b3 ⊢
  unfold several
  simp only [a3, b3]
  cases xs <;> rfl
theorem Reads.mono {read : St → E × St} {txt : List UInt8} {e : E} {w w' : Nat} {C C' : List UInt8 → Prop} (h : Reads read txt e w C) (hw : w ≤ w') (hC : ∀ r, C' r → C r) : Reads read txt e w' C' := fun r m hr h0 hm => by
  obtain ⟨m', a, b, c⟩ := h r m (hC r hr) h0 (by omega)
  exact ⟨m', a, by omega, c⟩
end Go.Proofs.D
/-
  WHAT IS READ is right, and small.
-/
set_option linter.unusedVariables false
set_option linter.unusedSimpArgs false
namespace Go.Proofs.D
open Go Go.Abs
theorem parse_sound (s : ByteArray) : (parse s = (E.none, 2)) ∨ ((parse s).2 = 0 ∧ (parse s).1.right = true ∧ (parse s).1.text false = s) := by
  unfold parse
  split
  · rename_i h
    exact .inr ⟨rfl, h.2.2.1, h.2.2.2⟩
  · exact .inl rfl
theorem none_small : E.none.small := E.small_mk (by decide) (by simp)
theorem parse_small (s : ByteArray) (hs : s.size ≤ 1000000000) : (parse s).1.small ∧ (parse s).1.cnt ≤ 1000 := by
  have h0 : Ready 49 ⟨s, false, 0⟩ := ⟨rfl, by simp, by simp, by simp, hs⟩
  have hm := altN_made tl_size _ h0
  have a : ((altN tl ⟨s, false, 0⟩).1.cnt : Int) + 1 ≤ 4 * ((altN tl ⟨s, false, 0⟩).2.many - 0) := hm.cnt
  have b := hm.top
  unfold parse
  split
  · exact ⟨hm.small, by show (altN tl ⟨s, false, 0⟩).1.cnt ≤ 1000; omega⟩
  · exact ⟨none_small, by decide⟩
end Go.Proofs.D
/-
  AN EXPRESSION THAT IS WRITTEN IS READ AS IT WAS: by the expression.
-/
set_option linter.unusedVariables false
set_option linter.unusedSimpArgs false
namespace Go.Proofs.D
open Go Go.Abs
abbrev E.txl (b : Bool) (e : E) : List UInt8 := (e.text b).data.toList
theorem par_list (b : Bool) (s : ByteArray) : (par b s).data.toList = if b = true then 40 :: (s.data.toList ++ [41]) else s.data.toList := by
  unfold par
  split
  · rw [app_list, app_list]; rfl
  · rfl
theorem join_list (txt : E → ByteArray) (sign : UInt8) (x : E) (xs : List E) : (joinB ((x :: xs).map txt) (B [sign])).data.toList = (txt x).data.toList ++ tailT sign (fun y => (txt y).data.toList) xs := by
  unfold joinB
  simp only [List.map_cons, Lib.join_cons, List.toList_toArray, List.map_map]
  congr 1
  simp only [Lib.joinTail, tailT, List.map_map]
  rfl
/-- What may stand behind an item. -/
def Cend (r : List UInt8) : Prop := ∀ c, r.head? = some c → isLow c = false ∧ c ≠ 42 ∧ c ≠ 43 ∧ c ≠ 63
theorem Cend_cons {c : UInt8} (h1 : isLow c = false) (h2 : c ≠ 42) (h3 : c ≠ 43) (h4 : c ≠ 63) (r : List UInt8) : Cend (c :: r) := by
  intro d hd
  simp at hd
  subst hd
  exact ⟨h1, h2, h3, h4⟩
abbrev seqR (k : Nat) : St → E × St := several (itemN tl k) 115 ⟨#[32]⟩
abbrev altR (k : Nat) : St → E × St := several (seqR k) 97 ⟨#[124]⟩
abbrev Cseq (r : List UInt8) : Prop := Cend r ∧ r.head? ≠ some 32
abbrev Calt (r : List UInt8) : Prop := Cseq r ∧ r.head? ≠ some 124
theorem kids_sum (e : E) : (e.kids.map E.cnt).sum + 1 = e.cnt := by rw [cnt_eq]; omega
/-- A sequence, or what stands for itself, as seq reads it. -/
theorem seq_reads (k : Nat) (e : E) (hok : e.ok = true) (hna : e.op ≠ 97) (hself : e.op ≠ 115 ∨ e.kids = [] → Reads (itemN tl k) (e.txl true) e e.cnt Cend) (hkids : e.op = 115 → ∀ y ∈ e.kids, Reads (itemN tl k) (y.txl true) y y.cnt Cend) (w : Nat) (hw1 : e.op = 115 ∧ e.kids ≠ [] → e.cnt - 1 ≤ w) (hw2 : ¬ (e.op = 115 ∧ e.kids ≠ []) → e.cnt ≤ w) : Reads (seqR k) (e.txl false) e w Cseq := by
  by_cases h : e.op = 115 ∧ e.kids ≠ []
  · have hw := hw1 h
    obtain ⟨h1, h2⟩ := h
    rcases E.ok_ops hok with ⟨h, _⟩ | ⟨_, hn, hl⟩ | ⟨h, _⟩ | ⟨h, _⟩
    · omega
    · match hkk : e.kids, h2, hl with
      | [_], _, hl => simp at hl
      | x :: y :: l, _, _ =>
        have hs := several_reads (sign := 32) (C := Cend) (Cend_cons (by decide) (by decide) (by decide) (by decide)) (E.txl true) E.cnt 115 x (y :: l) (fun z hz => hkids h1 z (by rw [hkk]; exact hz))
        have htxt : e.txl false = x.txl true ++ tailT 32 (E.txl true) (y :: l) := by
          unfold E.txl
          rw [text_eq, if_neg (by omega), if_pos h1, if_neg (by rw [hkk]; simp), par_list, if_neg (by simp), hkk]
          have : (!decide (e.op = 97)) = true := by simp [h1]
          rw [this]
          exact join_list (fun z => z.text true) 32 x (y :: l)
        have he : e = .mk 115 ⟨#[]⟩ (x :: y :: l) := by
          obtain ⟨o, n, ks⟩ := e
          simp only [E.op, E.name, E.kids] at h1 hn hkk
          rw [h1, hn, hkk]
        rw [htxt]
        have hc := kids_sum e
        rw [hkk] at hc
        conv => arg 3; rw [he]
        exact hs.mono (by omega) (fun r hr => hr)
    · omega
    · omega
  · have hw := hw2 h
    have h' : e.op ≠ 115 ∨ e.kids = [] := by
      by_cases h1 : e.op = 115
      · right
        exact Classical.byContradiction fun h2 => h ⟨h1, h2⟩
      · exact .inl h1
    have hs := several_reads (sign := 32) (C := Cend) (Cend_cons (by decide) (by decide) (by decide) (by decide)) (E.txl true) E.cnt 115 e [] (fun z hz => by simp at hz; subst hz; exact hself h')
    have htxt : e.txl false = e.txl true ++ tailT 32 (E.txl true) [] := by
      simp only [tailT, List.map_nil, List.flatten_nil, List.append_nil]
      unfold E.txl
      rw [text_eq e false, text_eq e true]
      by_cases h1 : e.op = 110
      · simp [h1]
      · by_cases h2 : e.op = 115
        · have : e.kids = [] := by rcases h' with h | h; exact absurd h2 h; exact h
          simp [h2, this]
        · simp [h1, h2, hna]
    rw [htxt]
    exact hs.mono (by simpa using hw) (fun r hr => hr)
/-- Whatever it is, as alt reads it. -/
theorem alt_reads (k : Nat) (e : E) (hok : e.ok = true) (w : Nat) (hself : e.op ≠ 97 → Reads (seqR k) (e.txl false) e w Cseq) (hkids : e.op = 97 → ∀ y ∈ e.kids, Reads (seqR k) (y.txl false) y y.cnt Cseq) (hw1 : e.op = 97 → e.cnt - 1 ≤ w) : Reads (altR k) (e.txl false) e w Calt := by
  have hC : ∀ r, Cseq (124 :: r) := fun r => ⟨Cend_cons (by decide) (by decide) (by decide) (by decide) r, by simp⟩
  by_cases h1 : e.op = 97
  · have hw := hw1 h1
    rcases E.ok_ops hok with ⟨h, _⟩ | ⟨h, _⟩ | ⟨_, hn, hl⟩ | ⟨h, _⟩
    · omega
    · omega
    · match hkk : e.kids, hl with
      | x :: y :: l, _ =>
        have hs := several_reads (sign := 124) (C := Cseq) hC (E.txl false) E.cnt 97 x (y :: l) (fun z hz => hkids h1 z (by rw [hkk]; exact hz))
        have htxt : e.txl false = x.txl false ++ tailT 124 (E.txl false) (y :: l) := by
          unfold E.txl
          rw [text_eq, if_neg (by omega), if_neg (by omega), if_pos h1, par_list, if_neg (by simp), hkk]
          have : (!decide (e.op = 97)) = false := by simp [h1]
          rw [this]
          exact join_list (fun z => z.text false) 124 x (y :: l)
        have he : e = .mk 97 ⟨#[]⟩ (x :: y :: l) := by
          obtain ⟨o, n, ks⟩ := e
          simp only [E.op, E.name, E.kids] at h1 hn hkk
          rw [h1, hn, hkk]
        rw [htxt]
        have hc := kids_sum e
        rw [hkk] at hc
        conv => arg 3; rw [he]
        exact hs.mono (by omega) (fun r hr => hr)
    · omega
  · have hs := several_reads (sign := 124) (C := Cseq) hC (E.txl false) (fun _ => w) 97 e [] (fun z hz => by simp at hz; subst hz; exact hself h1)
    have htxt : e.txl false = e.txl false ++ tailT 124 (E.txl false) [] := by simp [tailT]
    rw [htxt]
    exact hs.mono (by simp) (fun r hr => hr)
end Go.Proofs.D
