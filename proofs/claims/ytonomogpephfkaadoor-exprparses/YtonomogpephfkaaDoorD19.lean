/-
  THE READER: how much it makes; expressions are printed and read.
-/
import Derived.Test.YtonomogpephfkaaDoorD7
import Derived.Test.YtonomogpephfkaaDoorD18
set_option linter.unusedVariables false
set_option linter.unusedSimpArgs false
namespace Go.Proofs.D
open Go Go.Abs
attribute [local simp] VC stepV stepTop stepReg stepOp stMove stPick stBin stUn stConv stBox stAlloc stLoad stStore stFieldAddr stField stExtract stNilCheck stMakeFunc stIndexAddr stIndex stLen
  stBuild placesOf fillA stBuildSlice sliceCells repL chunks allPV toPV drawOk drawOk.go mayMakeO mayMake1 disjoint pairOk Oper.apart Oper.looksAt Op.operands Call.operands Region.binds stAppend appBase appTail unName stSlice bndA
  LS.ev LS.get LS.blk LS.put LS.app LS.upd lkS lkH setS setH Nm.eqb guardOf nexts okPair dstOk AV.cellsOf takeAt putAt lkT sliceE fieldT intK isStrT isBoolT abin newOk LS.freshB LS.freshB.go LS.freshB.goH notIn AV.ments AV.ments.mentsL Blk.ments makes upsMents LS.start startL exitTo T Nat.blt
  conv convS convH srcs srcOf blkOk leA leA.leL leB leP laid laidM isArg subH retP resAV resL res1 AV.frz AV.frz.frzL evL AV.ren AV.ren.renL Blk.ren renBs blksOf allSome nodupB onlyArgs blksMents callUps keyed inName inName.go backName callSide
/-- What a reader makes of a state. -/
structure Made (s : St) (e : E) (t : St) : Prop where
  cnt : (e.cnt : Int) + 1 ≤ 4 * (t.many - s.many)
  top : t.many ≤ 49
  small : e.small
/-- The same, of several. -/
structure MadeL (s : St) (l : List E) (t : St) : Prop where
  cnt : (((l.map fun e => e.cnt + 1).sum : Nat) : Int) ≤ 4 * (t.many - s.many)
  top : t.many ≤ 49
  small : ∀ e ∈ l, e.small
  one : 1 ≤ l.length
theorem none_cnt : E.none.cnt = 1 := rfl
theorem rounds_made {read : St → E × St} {k : Nat} (hp : ∀ s, Ready k s → Post s (read s).2) (hm : ∀ s, Ready k s → Made s (read s).1 (read s).2) (sign : ByteArray) : ∀ (n : Nat) (l : List E) (s0 s : St), Ready k s0 → Post s0 s → MadeL s0 l s →
    MadeL s0 (rounds read sign n l s).1 (rounds read sign n l s).2
  | 0, l, s0, s, h0, h, hl => hl
  | n + 1, l, s0, s, h0, h, hl => by
    simp only [rounds]
    split
    · exact hl
    · rename_i hb
      have hr := (h0.post h (by simpa using hb)).cut sign
      split
      · have q := hm _ hr
        refine rounds_made hp hm sign n _ s0 _ h0 ((h.cut sign).trans (hp _ hr)) ⟨?_, q.top, ?_, by simp⟩
        · have := q.cnt
          have := hl.cnt
          simp [St.cut] at *
          omega
        · intro e he
          rcases List.mem_append.1 he with h | h
          · exact hl.small e h
          · simp at h; subst h; exact q.small
      · exact ⟨hl.cnt, hl.top, hl.small, hl.one⟩
theorem sum_succ (l : List E) : (l.map fun e => e.cnt + 1).sum = (l.map E.cnt).sum + l.length := by
  induction l with
  | nil => rfl
  | cons x l ih => simp [ih]; omega
theorem several_made {read : St → E × St} {k : Nat} (hp : ∀ s, Ready k s → Post s (read s).2) (hm : ∀ s, Ready k s → Made s (read s).1 (read s).2) (op : Int) (sign : ByteArray) (s : St) (h : Ready k s) : Made s (several read op sign s).1 (several read op sign s).2 := by
  unfold several
  have q := hm s h
  have hr := rounds_made hp hm sign (s.left.size + 1) [(read s).1] s (read s).2 h (hp s h) ⟨by have := q.cnt; simpa using this, q.top, by simpa using q.small, by simp⟩
  generalize rounds read sign (s.left.size + 1) [(read s).1] (read s).2 = R at hr
  obtain ⟨l, t⟩ := R
  dsimp only at hr ⊢
  have hc := hr.cnt
  have ho := hr.one
  match l, hr, hc, ho with
  | [], hr, _, ho => simp at ho
  | [e], hr, hc, _ => exact ⟨by simpa using hc, hr.top, hr.small e (by simp)⟩
  | x :: y :: l, hr, hc, _ =>
    refine ⟨?_, hr.top, E.small_mk (by decide) hr.small⟩
    rw [sum_succ] at hc
    rw [cnt_eq]
    show ((1 + ((x :: y :: l).map E.cnt).sum : Nat) : Int) + 1 ≤ _
    simp at hc ⊢
    omega
theorem sfx_made (e : E) (s0 : St) (hs : e.small) : ∀ (l : List Int) (s : St), (e.cnt : Int) + 2 ≤ 4 * (s.many - s0.many) → s.many ≤ 49 → Made s0 (sfx e l s).1 (sfx e l s).2
  | [], s, h, ht => ⟨by simp only [sfx]; omega, ht, hs⟩
  | o :: l, s, h, ht => by
    simp only [sfx]
    split
    · refine ⟨?_, ht, E.small_mk (by decide) (by simpa using hs)⟩
      rw [cnt_eq]
      simp [E.kids, St.cut]
      omega
    · exact sfx_made e s0 hs l _ h ht
theorem itemN_made {tl : ByteArray → ByteArray} (htl : ∀ s, (tl s).size ≤ s.size) : ∀ (k : Nat) (s : St), Ready k s → Made s (itemN tl k s).1 (itemN tl k s).2
  | 0, s, h => by have := h.fuel; have := h.few; omega
  | k + 1, s, h => by
    simp only [itemN, itemF]
    have hw := wr64 (s.many + 1) (by have := h.many; have := h.few; omega)
    have hf := h.few
    split
    · exact ⟨by simp only [hw, none_cnt]; omega, by simp only [hw]; omega, E.small_mk (by decide) (by simp)⟩
    · rename_i h48
      rw [hw] at h48 ⊢
      have hr : Ready k { s with many := s.many + 1 } := ⟨h.bad, by have := h.many; simp; omega, by simp; omega, by have := h.fuel; simp; omega, h.size⟩
      have hseq : ∀ q, Ready k q → Post q (several (itemN tl k) 115 ⟨#[32]⟩ q).2 := fun q hq => several_post (itemN_post htl k) 115 ⟨#[32]⟩ q hq
      have hseqm : ∀ q, Ready k q → Made q (several (itemN tl k) 115 ⟨#[32]⟩ q).1 (several (itemN tl k) 115 ⟨#[32]⟩ q).2 := fun q hq => several_made (itemN_post htl k) (itemN_made htl k) 115 ⟨#[32]⟩ q hq
      have halt := fun q hq => several_made hseq hseqm 97 ⟨#[124]⟩ q hq
      have key : (baseF tl (several (several (itemN tl k) 115 ⟨#[32]⟩) 97 ⟨#[124]⟩) { s with many := s.many + 1 }).1.small ∧ ((baseF tl (several (several (itemN tl k) 115 ⟨#[32]⟩) 97 ⟨#[124]⟩) { s with many := s.many + 1 }).1.cnt : Int) + 2 ≤ 4 * ((baseF tl (several (several (itemN tl k) 115 ⟨#[32]⟩) 97 ⟨#[124]⟩) { s with many := s.many + 1 }).2.many - s.many) ∧ (baseF tl (several (several (itemN tl k) 115 ⟨#[32]⟩) 97 ⟨#[124]⟩) { s with many := s.many + 1 }).2.many ≤ 49 := by
        unfold baseF
        split
        · refine ⟨E.small_mk (by decide) (by simp), ?_, ?_⟩
          · rw [cnt_eq]; simp [E.kids, St.cut]; omega
          · simp [St.cut]; omega
        · dsimp only
          split
          · have hr2 := (hr.cut ⟨#[40, 41]⟩).cut ⟨#[40]⟩
            have hq := halt _ hr2
            have hc := hq.cnt
            simp [St.cut] at hc
            refine ⟨hq.small, ?_, hq.top⟩
            simp [St.cut]
            omega
          · refine ⟨E.small_mk ?_ (by simp), ?_, ?_⟩
            · have := ((hr.cut ⟨#[40, 41]⟩).cut ⟨#[40]⟩).size
              simp [ByteArray.size_extract] at this ⊢
              omega
            · rw [cnt_eq]; simp [E.kids, St.cut]; omega
            · simp [St.cut]; omega
      exact sfx_made _ s key.1 _ _ key.2.1 key.2.2
theorem altN_made {tl : ByteArray → ByteArray} (htl : ∀ s, (tl s).size ≤ s.size) (s : St) (h : Ready 49 s) : Made s (altN tl s).1 (altN tl s).2 :=
  several_made (fun q hq => several_post (itemN_post htl 49) 115 ⟨#[32]⟩ q hq) (fun q hq => several_made (itemN_post htl 49) (itemN_made htl 49) 115 ⟨#[32]⟩ q hq) 97 ⟨#[124]⟩ s h
/-- Printed: the text, and an error's number. -/
def E.print (e : E) : ByteArray × Int := if e.right = true then (e.text false, 0) else (⟨#[]⟩, 2)
theorem f17 (Gl : Granted) (e : E) (hs : e.small) (hc : e.cnt ≤ 1000000) : Fun Tryd.prog Gl 17 [e.av] [] (.tup [vS e.print.1, vI e.print.2]) [] := by
  refine fun_of (T := T) (n := 9) (rs := [.tmp 2, .tmp 3]) Tryd.func17 (by kernel_rfl) rfl rfl rfl tok mixed (by simp) fun C hC => ?_
  refine hC.vc [] 60 ?_
  simp [E.av, E.cells]
  refine hC.call [] (f18 Gl e hs) (by simp [E.av, E.cells]) ?_
  refine hC.vc [] 60 ?_
  cases hr : e.right with
  | false => simp [E.print, hr]
  | true =>
    have hok : e.ok = true := by simp [E.right] at hr; exact hr.2
    simp
    refine hC.call [] (f31 Gl e false hok hc) (by simp [E.av, E.cells]) ?_
    refine hC.vc [] 60 ?_
    simp [E.print, hr]
/-- strings.TrimLeft, of small letters. -/
def tl (s : ByteArray) : ByteArray := ⟨(Lib.trimLeftS s.data.toList low.data.toList).toArray⟩
theorem tl_size (s : ByteArray) : (tl s).size ≤ s.size := by
  have : (s.data.toList.dropWhile (low.data.toList.contains ·)).length ≤ s.data.toList.length := (List.dropWhile_sublist _).length_le
  have e1 : (tl s).size = (s.data.toList.dropWhile (low.data.toList.contains ·)).length := List.size_toArray
  have e2 : s.size = s.data.toList.length := Array.length_toList.symm
  omega
def read (s : ByteArray) : E × St := altN tl ⟨s, false, 0⟩
/-- The expression of a text, and an error's number. -/
def parse (s : ByteArray) : E × Int := if (read s).2.bad = false ∧ (read s).2.left = ⟨#[]⟩ ∧ (read s).1.right = true ∧ (read s).1.text false = s then ((read s).1, 0) else (E.none, 2)
set_option maxRecDepth 20000 in
theorem f13 (Gl : Granted) (s : ByteArray) (hs : s.size ≤ 1000000000) : Fun Tryd.prog Gl 13 [vS s] [] (.tup [(parse s).1.av, vI (parse s).2]) [] := by
  have h0 : Ready 49 ⟨s, false, 0⟩ := ⟨rfl, by simp, by simp, by simp, hs⟩
  have hm := altN_made tl_size _ h0
  have hcnt : (read s).1.cnt ≤ 1000000 := by
    have a : ((altN tl ⟨s, false, 0⟩).1.cnt : Int) + 1 ≤ 4 * ((altN tl ⟨s, false, 0⟩).2.many - 0) := hm.cnt
    have b := hm.top
    show (altN tl ⟨s, false, 0⟩).1.cnt ≤ 1000000
    omega
  have hsm : (read s).1.small := hm.small
  have hp : parse s = if (read s).2.bad = false ∧ (read s).2.left = ⟨#[]⟩ ∧ (read s).1.right = true ∧ (read s).1.text false = s then ((read s).1, 0) else (E.none, 2) := rfl
  generalize parse s = pr at hp ⊢
  subst hp
  refine fun_of (T := T) (n := 40) (rs := [.cell 2 25, .tmp 3]) Tryd.func13 (by kernel_rfl) rfl rfl rfl tok mixed (by simp) fun C hC => ?_
  refine hC.vc [] 60 ?_
  simp
  refine hC.call [.loc 10] (f28_start Gl tl (f99 Gl) tl_size ⟨s, false, 0⟩ h0) (by simp [E.av, E.cells]) ?_
  have hrd : altN tl ⟨s, false, 0⟩ = read s := rfl
  rw [hrd]
  generalize read s = R at hcnt hsm hC ⊢
  obtain ⟨e, r⟩ := R
  dsimp only at hcnt hsm hC ⊢
  refine hC.vc [] 60 ?_
  simp [E.av, E.cells]
  refine hC.call [] (f17 Gl e hsm hcnt) (by simp [E.av, E.cells]) ?_
  refine hC.vc [] 60 ?_
  cases hb : r.bad with
  | true => simp [E.none, E.op, E.name, E.kids, E.av, E.cells]
  | false =>
    by_cases hl : r.left = ⟨#[]⟩
    · cases hr : e.right with
      | false => simp [hl, E.print, hr, E.none, E.op, E.name, E.kids, E.av, E.cells]
      | true =>
        by_cases ht : e.text false = s
        · simp [hl, E.print, hr, ht, E.av, E.cells]
        · simp [hl, E.print, hr, ht, E.none, E.op, E.name, E.kids, E.av, E.cells]
    · simp [hl, E.none, E.op, E.name, E.kids, E.av, E.cells]
end Go.Proofs.D
