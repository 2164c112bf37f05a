/-
  THE READER: how often it may call itself.
-/
import Derived.Test.YtdlnenkemolnlaaGreatDoorL0
set_option linter.unusedVariables false
set_option linter.unusedSimpArgs false
namespace Go.Proofs.D
open Go Go.Abs
/-- What a reader leaves of a state. -/
structure Post (s t : St) : Prop where
  size : t.left.size ≤ s.left.size
  many : s.many ≤ t.many
  good : t.bad = false → t.many ≤ 48
theorem Post.trans {a b c : St} (h : Post a b) (k : Post b c) : Post a c := ⟨Nat.le_trans k.size h.size, Int.le_trans h.many k.many, k.good⟩
theorem cutPre_le (s p : ByteArray) : (cutPre s p).size ≤ s.size := by
  unfold cutPre
  split
  · simp [ByteArray.size_extract]
  · exact Nat.le_refl _
theorem Post.cut {a b : St} (h : Post a b) (sign : ByteArray) : Post a (b.cut sign) := ⟨Nat.le_trans (cutPre_le _ _) h.size, h.many, h.good⟩
/-- A state in which k more items may be read. -/
structure Ready (k : Nat) (s : St) : Prop where
  bad : s.bad = false
  many : 0 ≤ s.many
  few : s.many ≤ 48
  fuel : 49 ≤ s.many + k
  size : s.left.size ≤ 1000000000
theorem Ready.post {k : Nat} {s t : St} (h : Ready k s) (p : Post s t) (hb : t.bad = false) : Ready k t := ⟨hb, by have := p.many; have := h.many; omega, p.good hb, by have := p.many; have := h.fuel; omega, Nat.le_trans p.size h.size⟩
theorem Ready.refl {k : Nat} {s : St} (h : Ready k s) : Post s s := ⟨Nat.le_refl _, Int.le_refl _, fun _ => h.few⟩
theorem Ready.cut {k : Nat} {s : St} (h : Ready k s) (sign : ByteArray) : Ready k (s.cut sign) := h.post (h.refl.cut sign) h.bad
theorem rounds_post {read : St → E × St} {k : Nat} (hp : ∀ s, Ready k s → Post s (read s).2) (sign : ByteArray) : ∀ (n : Nat) (l : List E) (s0 s : St), Ready k s0 → Post s0 s → Post s0 (rounds read sign n l s).2
  | 0, l, s0, s, h0, h => h
  | n + 1, l, s0, s, h0, h => by
    simp only [rounds]
    split
    · exact h
    · rename_i hb
      have hr := (h0.post h (by simpa using hb)).cut sign
      split
      · exact rounds_post hp sign n _ s0 _ h0 ((h.cut sign).trans (hp _ hr))
      · exact h.cut sign
theorem several_post {read : St → E × St} {k : Nat} (hp : ∀ s, Ready k s → Post s (read s).2) (op : Int) (sign : ByteArray) (s : St) (h : Ready k s) : Post s (several read op sign s).2 := by
  unfold several
  exact rounds_post hp sign _ _ s _ h (hp s h)
theorem sfx_post (e : E) : ∀ (l : List Int) (s0 s : St), Post s0 s → Post s0 (sfx e l s).2
  | [], s0, s, h => h
  | o :: l, s0, s, h => by
    simp only [sfx]
    split
    · exact h.cut _
    · exact sfx_post e l s0 _ (h.cut _)
theorem baseF_post {tl : ByteArray → ByteArray} (htl : ∀ s, (tl s).size ≤ s.size) {alt : St → E × St} {k : Nat} (ha : ∀ s, Ready k s → Post s (alt s).2) (s : St) (h : Ready k s) : Post s (baseF tl alt s).2 := by
  unfold baseF
  split
  · exact h.refl.cut _
  · dsimp only
    split
    · have hr := (h.cut ⟨#[40, 41]⟩).cut ⟨#[40]⟩
      have hp := ha _ hr
      have h1 := (h.refl.cut ⟨#[40, 41]⟩).cut ⟨#[40]⟩
      have h2 := h1.trans hp
      refine ⟨Nat.le_trans (cutPre_le _ _) h2.size, h2.many, fun hb => h2.good ?_⟩
      simp at hb
      exact hb.2
    · have h1 := (h.refl.cut ⟨#[40, 41]⟩).cut ⟨#[40]⟩
      exact ⟨Nat.le_trans (htl _) h1.size, h1.many, h1.good⟩
def itemN (tl : ByteArray → ByteArray) : Nat → St → E × St
  | 0, s => (E.none, s)
  | k + 1, s => itemF tl (several (several (itemN tl k) 115 ⟨#[32]⟩) 97 ⟨#[124]⟩) s
theorem itemN_post {tl : ByteArray → ByteArray} (htl : ∀ s, (tl s).size ≤ s.size) : ∀ (k : Nat) (s : St), Ready k s → Post s (itemN tl k s).2
  | 0, s, h => by have := h.fuel; have := h.few; omega
  | k + 1, s, h => by
    simp only [itemN, itemF]
    have hw := wr64 (s.many + 1) (by have := h.many; have := h.few; omega)
    split
    · exact ⟨Nat.le_refl _, by simp only [hw]; omega, fun hb => by cases hb⟩
    · rename_i h48
      rw [hw] at h48 ⊢
      have hr : Ready k { s with many := s.many + 1 } := ⟨h.bad, by have := h.many; simp; omega, by simp; omega, by have := h.fuel; simp; omega, h.size⟩
      have hb := baseF_post htl (fun q hq => several_post (fun q hq => several_post (itemN_post htl k) 115 ⟨#[32]⟩ q hq) 97 ⟨#[124]⟩ q hq) _ hr
      have h0 : Post s { s with many := s.many + 1 } := ⟨Nat.le_refl _, by simp; omega, fun _ => by simp; omega⟩
      exact sfx_post _ _ s _ (h0.trans hb)
theorem readers (Gl : Granted) (tl : ByteArray → ByteArray) (h99 : ∀ s, Fun Tryz.prog Gl 202 [vS s, vS lowS] [] (vS (tl s)) []) (htl : ∀ s, (tl s).size ≤ s.size) : ∀ (k : Nat) (s : St), Ready k s →
    Fun Tryz.prog Gl 197 [.ptr (.arg 0) 0] [some s.b] (itemN tl k s).1.av [some (itemN tl k s).2.b]
  | 0, s, h => by have := h.fuel; have := h.few; omega
  | k + 1, s, h => by
    have hw := wr64 (s.many + 1) (by have := h.many; have := h.few; omega)
    have hseq : ∀ q, Ready k q → Fun Tryz.prog Gl 172 [.ptr (.arg 0) 0] [some q.b] (several (itemN tl k) 115 ⟨#[32]⟩ q).1.av [some (several (itemN tl k) 115 ⟨#[32]⟩ q).2.b] := fun q hq =>
      f54 Gl (itemN tl k) (Ready k) (readers Gl tl h99 htl k) (fun q hq => (itemN_post htl k q hq).size) (fun q hq hb => hq.post (itemN_post htl k q hq) hb) (fun q sign hq _ => hq.cut sign) q hq hq.size
    have hp : ∀ q, Ready k q → Post q (several (itemN tl k) 115 ⟨#[32]⟩ q).2 := fun q hq => several_post (itemN_post htl k) 115 ⟨#[32]⟩ q hq
    exact f82 Gl tl h99 htl (several (several (itemN tl k) 115 ⟨#[32]⟩) 97 ⟨#[124]⟩) s h.size fun r hm hb hsz h48 => by
      have hr : Ready k r := ⟨by rw [hb]; exact h.bad, by rw [← hm, hw]; have := h.many; omega, by omega, by rw [← hm, hw]; have := h.fuel; simp at this; omega, Nat.le_trans hsz h.size⟩
      exact f28 Gl _ (Ready k) hseq (fun q hq => (hp q hq).size) (fun q hq hb => hq.post (hp q hq) hb) (fun q sign hq _ => hq.cut sign) r hr hr.size
/-- alt, from the start. -/
def altN (tl : ByteArray → ByteArray) (s : St) : E × St := several (several (itemN tl 49) 115 ⟨#[32]⟩) 97 ⟨#[124]⟩ s
theorem f28_start (Gl : Granted) (tl : ByteArray → ByteArray) (h99 : ∀ s, Fun Tryz.prog Gl 202 [vS s, vS lowS] [] (vS (tl s)) []) (htl : ∀ s, (tl s).size ≤ s.size) (s : St) (h : Ready 49 s) :
    Fun Tryz.prog Gl 145 [.ptr (.arg 0) 0] [some s.b] (altN tl s).1.av [some (altN tl s).2.b] := by
  have hseq : ∀ q, Ready 49 q → Fun Tryz.prog Gl 172 [.ptr (.arg 0) 0] [some q.b] (several (itemN tl 49) 115 ⟨#[32]⟩ q).1.av [some (several (itemN tl 49) 115 ⟨#[32]⟩ q).2.b] := fun q hq =>
    f54 Gl (itemN tl 49) (Ready 49) (readers Gl tl h99 htl 49) (fun q hq => (itemN_post htl 49 q hq).size) (fun q hq hb => hq.post (itemN_post htl 49 q hq) hb) (fun q sign hq _ => hq.cut sign) q hq hq.size
  have hp : ∀ q, Ready 49 q → Post q (several (itemN tl 49) 115 ⟨#[32]⟩ q).2 := fun q hq => several_post (itemN_post htl 49) 115 ⟨#[32]⟩ q hq
  exact f28 Gl _ (Ready 49) hseq (fun q hq => (hp q hq).size) (fun q hq hb => hq.post (hp q hq) hb) (fun q sign hq _ => hq.cut sign) s h h.size
end Go.Proofs.D
/-
  THE READER: how much it makes; expressions are printed and read.
-/
set_option linter.unusedVariables false
set_option linter.unusedSimpArgs false
namespace Go.Proofs.D
open Go Go.Abs
attribute [local simp] VC VCS stepVS stepTopS firstId memN bigB unmark markT mkOff calmP keepT boundB stepV stepTop stepReg stepOp stMove stPick stBin stUn stConv stBox stAlloc stLoad stStore stFieldAddr stField stExtract stNilCheck stMakeFunc stIndexAddr stIndex stLen
  stBuild placesOf fillA stBuildSlice sliceCells repL chunks allPV toPV drawOk drawOk.go mayMakeO mayMake1 disjoint pairOk Oper.apart Oper.looksAt Op.operands Call.operands Region.binds stAppend appBase appTail unName stSlice bndA
  LS.ev LS.get LS.blk LS.put LS.app LS.upd lkS lkH setS setH Nm.eqb guardOf nexts okPair dstOk AV.cellsOf takeAt putAt lkT sliceE fieldT intK isStrT isBoolT abin newOk LS.freshB LS.freshB.go LS.freshB.goH notIn AV.ments AV.ments.mentsL Blk.ments makes upsMents LS.start startL exitTo T Nat.blt
  conv convS convH srcs srcOf blkOk leA leA.leL Go.Abs.leB leP laid laidM laidG isArg subH retP resAV resL res1 AV.frz AV.frz.frzL evL AV.ren AV.ren.renL Blk.ren renBs blksOf allSome nodupB onlyArgs blksMents callUps keyed inName inName.go backName callSide
/-- What a reader makes of a state. -/
structure Made (s : St) (e : E) (t : St) : Prop where
  cnt : (e.cnt : Int) + 1 ≤ 4 * (t.many - s.many)
  top : t.many ≤ 49
  small : e.small
/-- The same, of several. -/
structure MadeL (s : St) (l : List E) (t : St) : Prop where
  cnt : (((l.map fun e => e.cnt + 1).sum : Nat) : Int) ≤ 4 * (t.many - s.many)
  top : t.many ≤ 49
  small : ∀ e ∈ l, e.small
  one : 1 ≤ l.length
theorem none_cnt : E.none.cnt = 1 := rfl
theorem rounds_made {read : St → E × St} {k : Nat} (hp : ∀ s, Ready k s → Post s (read s).2) (hm : ∀ s, Ready k s → Made s (read s).1 (read s).2) (sign : ByteArray) : ∀ (n : Nat) (l : List E) (s0 s : St), Ready k s0 → Post s0 s → MadeL s0 l s →
    MadeL s0 (rounds read sign n l s).1 (rounds read sign n l s).2
  | 0, l, s0, s, h0, h, hl => hl
  | n + 1, l, s0, s, h0, h, hl => by
    simp only [rounds]
    split
    · exact hl
    · rename_i hb
      have hr := (h0.post h (by simpa using hb)).cut sign
      split
      · have q := hm _ hr
        refine rounds_made hp hm sign n _ s0 _ h0 ((h.cut sign).trans (hp _ hr)) ⟨?_, q.top, ?_, by simp⟩
        · have := q.cnt
          have := hl.cnt
          simp [St.cut] at *
          omega
        · intro e he
          rcases List.mem_append.1 he with h | h
          · exact hl.small e h
          · simp at h; subst h; exact q.small
      · exact ⟨hl.cnt, hl.top, hl.small, hl.one⟩
theorem sum_succ (l : List E) : (l.map fun e => e.cnt + 1).sum = (l.map E.cnt).sum + l.length := by
  induction l with
  | nil => rfl
  | cons x l ih => simp [ih]; omega
theorem several_made {read : St → E × St} {k : Nat} (hp : ∀ s, Ready k s → Post s (read s).2) (hm : ∀ s, Ready k s → Made s (read s).1 (read s).2) (op : Int) (sign : ByteArray) (s : St) (h : Ready k s) : Made s (several read op sign s).1 (several read op sign s).2 := by
  unfold several
  have q := hm s h
  have hr := rounds_made hp hm sign (s.left.size + 1) [(read s).1] s (read s).2 h (hp s h) ⟨by have := q.cnt; simpa using this, q.top, by simpa using q.small, by simp⟩
  generalize rounds read sign (s.left.size + 1) [(read s).1] (read s).2 = R at hr
  obtain ⟨l, t⟩ := R
  dsimp only at hr ⊢
  have hc := hr.cnt
  have ho := hr.one
  match l, hr, hc, ho with
  | [], hr, _, ho => simp at ho
  | [e], hr, hc, _ => exact ⟨by simpa using hc, hr.top, hr.small e (by simp)⟩
  | x :: y :: l, hr, hc, _ =>
    refine ⟨?_, hr.top, E.small_mk (by decide) hr.small⟩
    rw [sum_succ] at hc
    rw [cnt_eq]
    show ((1 + ((x :: y :: l).map E.cnt).sum : Nat) : Int) + 1 ≤ _
    simp at hc ⊢
    omega
theorem sfx_made (e : E) (s0 : St) (hs : e.small) : ∀ (l : List Int) (s : St), (e.cnt : Int) + 2 ≤ 4 * (s.many - s0.many) → s.many ≤ 49 → Made s0 (sfx e l s).1 (sfx e l s).2
  | [], s, h, ht => ⟨by simp only [sfx]; omega, ht, hs⟩
  | o :: l, s, h, ht => by
    simp only [sfx]
    split
    · refine ⟨?_, ht, E.small_mk (by decide) (by simpa using hs)⟩
      rw [cnt_eq]
      simp [E.kids, St.cut]
      omega
    · exact sfx_made e s0 hs l _ h ht
theorem itemN_made {tl : ByteArray → ByteArray} (htl : ∀ s, (tl s).size ≤ s.size) : ∀ (k : Nat) (s : St), Ready k s → Made s (itemN tl k s).1 (itemN tl k s).2
  | 0, s, h => by have := h.fuel; have := h.few; omega
  | k + 1, s, h => by
    simp only [itemN, itemF]
    have hw := wr64 (s.many + 1) (by have := h.many; have := h.few; omega)
    have hf := h.few
    split
    · exact ⟨by simp only [hw, none_cnt]; omega, by simp only [hw]; omega, E.small_mk (by decide) (by simp)⟩
    · rename_i h48
      rw [hw] at h48 ⊢
      have hr : Ready k { s with many := s.many + 1 } := ⟨h.bad, by have := h.many; simp; omega, by simp; omega, by have := h.fuel; simp; omega, h.size⟩
      have hseq : ∀ q, Ready k q → Post q (several (itemN tl k) 115 ⟨#[32]⟩ q).2 := fun q hq => several_post (itemN_post htl k) 115 ⟨#[32]⟩ q hq
      have hseqm : ∀ q, Ready k q → Made q (several (itemN tl k) 115 ⟨#[32]⟩ q).1 (several (itemN tl k) 115 ⟨#[32]⟩ q).2 := fun q hq => several_made (itemN_post htl k) (itemN_made htl k) 115 ⟨#[32]⟩ q hq
      have halt := fun q hq => several_made hseq hseqm 97 ⟨#[124]⟩ q hq
      have key : (baseF tl (several (several (itemN tl k) 115 ⟨#[32]⟩) 97 ⟨#[124]⟩) { s with many := s.many + 1 }).1.small ∧ ((baseF tl (several (several (itemN tl k) 115 ⟨#[32]⟩) 97 ⟨#[124]⟩) { s with many := s.many + 1 }).1.cnt : Int) + 2 ≤ 4 * ((baseF tl (several (several (itemN tl k) 115 ⟨#[32]⟩) 97 ⟨#[124]⟩) { s with many := s.many + 1 }).2.many - s.many) ∧ (baseF tl (several (several (itemN tl k) 115 ⟨#[32]⟩) 97 ⟨#[124]⟩) { s with many := s.many + 1 }).2.many ≤ 49 := by
        unfold baseF
        split
        · refine ⟨E.small_mk (by decide) (by simp), ?_, ?_⟩
          · rw [cnt_eq]; simp [E.kids, St.cut]; omega
          · simp [St.cut]; omega
        · dsimp only
          split
          · have hr2 := (hr.cut ⟨#[40, 41]⟩).cut ⟨#[40]⟩
            have hq := halt _ hr2
            have hc := hq.cnt
            simp [St.cut] at hc
            refine ⟨hq.small, ?_, hq.top⟩
            simp [St.cut]
            omega
          · refine ⟨E.small_mk ?_ (by simp), ?_, ?_⟩
            · have := ((hr.cut ⟨#[40, 41]⟩).cut ⟨#[40]⟩).size
              simp [ByteArray.size_extract] at this ⊢
              omega
            · rw [cnt_eq]; simp [E.kids, St.cut]; omega
            · simp [St.cut]; omega
      exact sfx_made _ s key.1 _ _ key.2.1 key.2.2
theorem altN_made {tl : ByteArray → ByteArray} (htl : ∀ s, (tl s).size ≤ s.size) (s : St) (h : Ready 49 s) : Made s (altN tl s).1 (altN tl s).2 :=
  several_made (fun q hq => several_post (itemN_post htl 49) 115 ⟨#[32]⟩ q hq) (fun q hq => several_made (itemN_post htl 49) (itemN_made htl 49) 115 ⟨#[32]⟩ q hq) 97 ⟨#[124]⟩ s h
/-- Printed: the text, and an error's number. -/
def E.print (e : E) : ByteArray × Int := if e.right = true then (e.text false, 0) else (⟨#[]⟩, 2)
theorem f17 (Gl : Granted) (e : E) (hs : e.small) (hc : e.cnt ≤ 1000000) : Fun Tryz.prog Gl 54 [e.av] [] (.tup [vS e.print.1, vI e.print.2]) [] := by
  refine fun_of (T := T) (n := 9) (rs := [.tmp 2, .tmp 3]) Tryz.func54 (by kernel_rfl) rfl rfl rfl tok mixed (by simp) fun C hC => ?_
  refine hC.vc [] 60 ?_
  simp [E.av, E.cells]
  refine hC.call [] (f18 Gl e hs) (by simp [E.av, E.cells]) ?_
  refine hC.vc [] 60 ?_
  cases hr : e.right with
  | false => simp [E.print, hr]
  | true =>
    have hok : e.ok = true := by simp [E.right] at hr; exact hr.2
    simp
    refine hC.call [] (f31 Gl e false hok hc) (by simp [E.av, E.cells]) ?_
    refine hC.vc [] 60 ?_
    simp [E.print, hr]
/-- strings.TrimLeft, of small letters. -/
def tl (s : ByteArray) : ByteArray := ⟨(Lib.trimLeftS s.data.toList low.data.toList).toArray⟩
theorem tl_size (s : ByteArray) : (tl s).size ≤ s.size := by
  have : (s.data.toList.dropWhile (low.data.toList.contains ·)).length ≤ s.data.toList.length := (List.dropWhile_sublist _).length_le
  have e1 : (tl s).size = (s.data.toList.dropWhile (low.data.toList.contains ·)).length := List.size_toArray
  have e2 : s.size = s.data.toList.length := Array.length_toList.symm
  omega
def read (s : ByteArray) : E × St := altN tl ⟨s, false, 0⟩
/-- The expression of a text, and an error's number. -/
def parse (s : ByteArray) : E × Int := if (read s).2.bad = false ∧ (read s).2.left = ⟨#[]⟩ ∧ (read s).1.right = true ∧ (read s).1.text false = s then ((read s).1, 0) else (E.none, 2)
set_option maxRecDepth 20000 in
theorem f13 (Gl : Granted) (s : ByteArray) (hs : s.size ≤ 1000000000) : Fun Tryz.prog Gl 112 [vS s] [] (.tup [(parse s).1.av, vI (parse s).2]) [] := by
  have h0 : Ready 49 ⟨s, false, 0⟩ := ⟨rfl, by simp, by simp, by simp, hs⟩
  have hm := altN_made tl_size _ h0
  have hcnt : (read s).1.cnt ≤ 1000000 := by
    have a : ((altN tl ⟨s, false, 0⟩).1.cnt : Int) + 1 ≤ 4 * ((altN tl ⟨s, false, 0⟩).2.many - 0) := hm.cnt
    have b := hm.top
    show (altN tl ⟨s, false, 0⟩).1.cnt ≤ 1000000
    omega
  have hsm : (read s).1.small := hm.small
  have hp : parse s = if (read s).2.bad = false ∧ (read s).2.left = ⟨#[]⟩ ∧ (read s).1.right = true ∧ (read s).1.text false = s then ((read s).1, 0) else (E.none, 2) := rfl
  generalize parse s = pr at hp ⊢
  subst hp
  refine fun_of (T := T) (n := 40) (rs := [.cell 2 54, .tmp 3]) Tryz.func112 (by kernel_rfl) rfl rfl rfl tok mixed (by simp) fun C hC => ?_
  refine hC.vc [] 60 ?_
  simp
  refine hC.call [.loc 10] (f28_start Gl tl (f99 Gl) tl_size ⟨s, false, 0⟩ h0) (by simp [E.av, E.cells]) ?_
  have hrd : altN tl ⟨s, false, 0⟩ = read s := rfl
  rw [hrd]
  generalize read s = R at hcnt hsm hC ⊢
  obtain ⟨e, r⟩ := R
  dsimp only at hcnt hsm hC ⊢
  refine hC.vc [] 60 ?_
  simp [E.av, E.cells]
  refine hC.call [] (f17 Gl e hsm hcnt) (by simp [E.av, E.cells]) ?_
  refine hC.vc [] 60 ?_
  cases hb : r.bad with
  | true => simp [E.none, E.op, E.name, E.kids, E.av, E.cells]
  | false =>
    by_cases hl : r.left = ⟨#[]⟩
    · cases hr : e.right with
      | false => simp [hl, E.print, hr, E.none, E.op, E.name, E.kids, E.av, E.cells]
      | true =>
        by_cases ht : e.text false = s
        · simp [hl, E.print, hr, ht, E.av, E.cells]
        · simp [hl, E.print, hr, ht, E.none, E.op, E.name, E.kids, E.av, E.cells]
    · simp [hl, E.none, E.op, E.name, E.kids, E.av, E.cells]
end Go.Proofs.D
/-
  WHAT IS READ is right, and small.
-/
set_option linter.unusedVariables false
set_option linter.unusedSimpArgs false
namespace Go.Proofs.D
open Go Go.Abs
theorem parse_sound (s : ByteArray) : (parse s = (E.none, 2)) ∨ ((parse s).2 = 0 ∧ (parse s).1.right = true ∧ (parse s).1.text false = s) := by
  unfold parse
  split
  · rename_i h
    exact .inr ⟨rfl, h.2.2.1, h.2.2.2⟩
  · exact .inl rfl
theorem none_small : E.none.small := E.small_mk (by decide) (by simp)
theorem parse_small (s : ByteArray) (hs : s.size ≤ 1000000000) : (parse s).1.small ∧ (parse s).1.cnt ≤ 1000 := by
  have h0 : Ready 49 ⟨s, false, 0⟩ := ⟨rfl, by simp, by simp, by simp, hs⟩
  have hm := altN_made tl_size _ h0
  have a : ((altN tl ⟨s, false, 0⟩).1.cnt : Int) + 1 ≤ 4 * ((altN tl ⟨s, false, 0⟩).2.many - 0) := hm.cnt
  have b := hm.top
  unfold parse
  split
  · exact ⟨hm.small, by show (altN tl ⟨s, false, 0⟩).1.cnt ≤ 1000; omega⟩
  · exact ⟨none_small, by decide⟩
end Go.Proofs.D
/-
  AN EXPRESSION THAT IS WRITTEN IS READ AS IT WAS.
-/
set_option linter.unusedVariables false
set_option linter.unusedSimpArgs false
namespace Go.Proofs.D
open Go Go.Abs
abbrev B (l : List UInt8) : ByteArray := ⟨l.toArray⟩
theorem B_data (s : ByteArray) : B s.data.toList = s := by obtain ⟨a⟩ := s; simp [B]
theorem B_size (l : List UInt8) : (B l).size = l.length := List.size_toArray
theorem B_list (l : List UInt8) : (B l).data.toList = l := by simp [B]
theorem B_inj {l m : List UInt8} (h : B l = B m) : l = m := by
  have := congrArg (fun s : ByteArray => s.data.toList) h
  simpa [B] using this
theorem ext_list {s t : ByteArray} (h : s.data.toList = t.data.toList) : s = t := by rw [← B_data s, ← B_data t, h]
theorem app_list (s t : ByteArray) : (s ++ t).data.toList = s.data.toList ++ t.data.toList := by simp [ByteArray.data_append]
theorem extract_list (s : ByteArray) (i j : Nat) : (s.extract i j).data.toList = (s.data.toList.take j).drop i := by
  rw [ByteArray.data_extract]
  simp [Array.toList_extract, List.drop_take]
theorem hp_iff (l p : List UInt8) : hasPre (B l) (B p) = true ↔ ∃ r, l = p ++ r := by
  simp only [hasPre, Bool.and_eq_true, decide_eq_true_eq, B_size]
  constructor
  · rintro ⟨h1, h2⟩
    have h3 := congrArg (fun s : ByteArray => s.data.toList) h2
    simp only [extract_list, B_list, List.drop_zero] at h3
    exact ⟨l.drop p.length, by rw [← h3, List.length_take, Nat.min_eq_left h1]; exact (List.take_append_drop _ _).symm⟩
  · rintro ⟨r, rfl⟩
    refine ⟨by simp, ext_list ?_⟩
    rw [extract_list, B_list, B_list]
    simp
theorem hp_yes (p r : List UInt8) : hasPre (B (p ++ r)) (B p) = true := (hp_iff _ _).2 ⟨r, rfl⟩
theorem hp_one (l : List UInt8) (c : UInt8) : hasPre (B l) (B [c]) = true ↔ l.head? = some c := by
  rw [hp_iff]
  cases l with
  | nil => simp
  | cons x l => simp [eq_comm]
theorem hp_one_no {l : List UInt8} {c : UInt8} (h : l.head? ≠ some c) : hasPre (B l) (B [c]) = false := by
  cases hh : hasPre (B l) (B [c]) with
  | false => rfl
  | true => exact absurd ((hp_one l c).1 hh) h
theorem cp_yes (p r : List UInt8) : cutPre (B (p ++ r)) (B p) = B r := by
  unfold cutPre
  rw [if_pos (hp_yes p r)]
  refine ext_list ?_
  rw [extract_list, B_list, B_list, B_size, B_size, List.take_length]
  simp
theorem cp_no {s p : ByteArray} (h : hasPre s p = false) : cutPre s p = s := by simp [cutPre, h]
def isLow (c : UInt8) : Bool := decide (97 ≤ c.toNat) && decide (c.toNat ≤ 122)
theorem tl_B (l : List UInt8) : tl (B l) = B (l.dropWhile isLow) := by
  unfold tl Lib.trimLeftS
  rw [B_list]
  have : (fun b => low.data.toList.contains b) = isLow := by funext b; exact low_contains b
  rw [this]
/-- What a reader reads of a text, if what is behind is as C says; w: how many items it may take. -/
def Reads (read : St → E × St) (txt : List UInt8) (e : E) (w : Nat) (C : List UInt8 → Prop) : Prop :=
  ∀ (r : List UInt8) (m : Int), C r → 0 ≤ m → m + w ≤ 48 → ∃ m' : Int, m ≤ m' ∧ m' ≤ m + w ∧ read ⟨B (txt ++ r), false, m⟩ = (e, ⟨B r, false, m'⟩)
def tailT (sign : UInt8) (txt : E → List UInt8) (xs : List E) : List UInt8 := (xs.map fun y => sign :: txt y).flatten
theorem tailT_len (sign : UInt8) (txt : E → List UInt8) : ∀ xs : List E, xs.length ≤ (tailT sign txt xs).length
  | [] => by simp
  | y :: ys => by have := tailT_len sign txt ys; simp [tailT] at this ⊢; omega
theorem rounds_reads {read : St → E × St} {sign : UInt8} {C : List UInt8 → Prop} (hC : ∀ r, C (sign :: r)) (txt : E → List UInt8) (w : E → Nat) : ∀ (xs : List E), (∀ y ∈ xs, Reads read (txt y) y (w y) C) → ∀ (n : Nat) (acc : List E) (r : List UInt8) (m : Int),
    xs.length < n → C r → r.head? ≠ some sign → 0 ≤ m → m + (xs.map w).sum ≤ 48 → ∃ m' : Int, m ≤ m' ∧ m' ≤ m + (xs.map w).sum ∧ rounds read (B [sign]) n acc ⟨B (tailT sign txt xs ++ r), false, m⟩ = (acc ++ xs, ⟨B r, false, m'⟩)
  | [], _, n, acc, r, m, hn, hr, hh, h0, hm => by
    obtain ⟨n, rfl⟩ : ∃ k, n = k + 1 := ⟨n - 1, by simp at hn; omega⟩
    refine ⟨m, Int.le_refl _, by simp, ?_⟩
    have := hp_one_no hh
    simp [rounds, tailT, this, St.cut, cp_no this]
  | y :: ys, hr', n, acc, r, m, hn, hr, hh, h0, hm => by
    obtain ⟨n, rfl⟩ : ∃ k, n = k + 1 := ⟨n - 1, by simp at hn; omega⟩
    have e1 : tailT sign txt (y :: ys) ++ r = [sign] ++ (txt y ++ (tailT sign txt ys ++ r)) := by simp [tailT]
    have hC' : C (tailT sign txt ys ++ r) := by
      cases ys with
      | nil => simpa [tailT] using hr
      | cons z zs => simp only [tailT, List.map_cons, List.flatten_cons, List.cons_append]; exact hC _
    simp only [List.map_cons, List.sum_cons] at hm ⊢
    obtain ⟨m1, a1, a2, a3⟩ := hr' y (by simp) (tailT sign txt ys ++ r) m hC' h0 (by omega)
    obtain ⟨m2, b1, b2, b3⟩ := rounds_reads hC txt w ys (fun z hz => hr' z (by simp [hz])) n (acc ++ [y]) r m1 (by simp at hn; omega) hr hh (by omega) (by omega)
    refine ⟨m2, by omega, by omega, ?_⟩
    have hc : (⟨B (tailT sign txt (y :: ys) ++ r), false, m⟩ : St).cut (B [sign]) = ⟨B (txt y ++ (tailT sign txt ys ++ r)), false, m⟩ := by
      simp only [St.cut, e1, cp_yes]
    have hp : hasPre (⟨B (tailT sign txt (y :: ys) ++ r), false, m⟩ : St).left (B [sign]) = true := by
      show hasPre (B (tailT sign txt (y :: ys) ++ r)) (B [sign]) = true
      rw [e1]; exact hp_yes _ _
    simp only [rounds, hp, hc, a3]
    simpa using b3
theorem several_reads {read : St → E × St} {sign : UInt8} {C : List UInt8 → Prop} (hC : ∀ r, C (sign :: r)) (txt : E → List UInt8) (w : E → Nat) (op : Int) (x : E) (xs : List E) (h : ∀ y ∈ x :: xs, Reads read (txt y) y (w y) C) :
    Reads (several read op (B [sign])) (txt x ++ tailT sign txt xs) (match x :: xs with | [e] => e | l => .mk op ⟨#[]⟩ l) (((x :: xs).map w).sum) (fun r => C r ∧ r.head? ≠ some sign) := by
  intro r m ⟨hr, hh⟩ h0 hm
  simp only [List.map_cons, List.sum_cons] at hm ⊢
  have hC' : C (tailT sign txt xs ++ r) := by
    cases xs with
    | nil => simpa [tailT] using hr
    | cons z zs => simp only [tailT, List.map_cons, List.flatten_cons, List.cons_append]; exact hC _
  obtain ⟨m1, a1, a2, a3⟩ := h x (by simp) (tailT sign txt xs ++ r) m hC' h0 (by omega)
  have hlen : xs.length < (B (txt x ++ tailT sign txt xs ++ r)).size + 1 := by
    rw [B_size]
    have := tailT_len sign txt xs
    simp
    omega
  obtain ⟨m2, b1, b2, b3⟩ := rounds_reads hC txt w xs (fun z hz => h z (by simp [hz])) ((B (txt x ++ tailT sign txt xs ++ r)).size + 1) [x] r m1 hlen hr hh (by omega) (by omega)
  refine ⟨m2, by omega, by omega, ?_⟩
  rw [List.append_assoc] at b3 ⊢
  unfold several
  simp only [a3, b3]
  cases xs <;> rfl
theorem Reads.mono {read : St → E × St} {txt : List UInt8} {e : E} {w w' : Nat} {C C' : List UInt8 → Prop} (h : Reads read txt e w C) (hw : w ≤ w') (hC : ∀ r, C' r → C r) : Reads read txt e w' C' := fun r m hr h0 hm => by
  obtain ⟨m', a, b, c⟩ := h r m (hC r hr) h0 (by omega)
  exact ⟨m', a, by omega, c⟩
end Go.Proofs.D
/-
  AN EXPRESSION THAT IS WRITTEN IS READ AS IT WAS: by the expression.
-/
set_option linter.unusedVariables false
set_option linter.unusedSimpArgs false
namespace Go.Proofs.D
open Go Go.Abs
abbrev E.txl (b : Bool) (e : E) : List UInt8 := (e.text b).data.toList
theorem par_list (b : Bool) (s : ByteArray) : (par b s).data.toList = if b = true then 40 :: (s.data.toList ++ [41]) else s.data.toList := by
  unfold par
  split
  · rw [app_list, app_list]; rfl
  · rfl
theorem join_list (txt : E → ByteArray) (sign : UInt8) (x : E) (xs : List E) : (joinB ((x :: xs).map txt) (B [sign])).data.toList = (txt x).data.toList ++ tailT sign (fun y => (txt y).data.toList) xs := by
  unfold joinB
  simp only [List.map_cons, Lib.join_cons, List.toList_toArray, List.map_map]
  congr 1
  simp only [Lib.joinTail, tailT, List.map_map]
  rfl
/-- What may stand behind an item. -/
def Cend (r : List UInt8) : Prop := ∀ c, r.head? = some c → isLow c = false ∧ c ≠ 42 ∧ c ≠ 43 ∧ c ≠ 63
theorem Cend_cons {c : UInt8} (h1 : isLow c = false) (h2 : c ≠ 42) (h3 : c ≠ 43) (h4 : c ≠ 63) (r : List UInt8) : Cend (c :: r) := by
  intro d hd
  simp at hd
  subst hd
  exact ⟨h1, h2, h3, h4⟩
abbrev seqR (k : Nat) : St → E × St := several (itemN tl k) 115 ⟨#[32]⟩
abbrev altR (k : Nat) : St → E × St := several (seqR k) 97 ⟨#[124]⟩
abbrev Cseq (r : List UInt8) : Prop := Cend r ∧ r.head? ≠ some 32
abbrev Calt (r : List UInt8) : Prop := Cseq r ∧ r.head? ≠ some 124
theorem kids_sum (e : E) : (e.kids.map E.cnt).sum + 1 = e.cnt := by rw [cnt_eq]; omega
/-- A sequence, or what stands for itself, as seq reads it. -/
theorem seq_reads (k : Nat) (e : E) (hok : e.ok = true) (hna : e.op ≠ 97) (hself : e.op ≠ 115 ∨ e.kids = [] → Reads (itemN tl k) (e.txl true) e e.cnt Cend) (hkids : e.op = 115 → ∀ y ∈ e.kids, Reads (itemN tl k) (y.txl true) y y.cnt Cend) (w : Nat) (hw1 : e.op = 115 ∧ e.kids ≠ [] → e.cnt - 1 ≤ w) (hw2 : ¬ (e.op = 115 ∧ e.kids ≠ []) → e.cnt ≤ w) : Reads (seqR k) (e.txl false) e w Cseq := by
  by_cases h : e.op = 115 ∧ e.kids ≠ []
  · have hw := hw1 h
    obtain ⟨h1, h2⟩ := h
    rcases E.ok_ops hok with ⟨h, _⟩ | ⟨_, hn, hl⟩ | ⟨h, _⟩ | ⟨h, _⟩
    · omega
    · match hkk : e.kids, h2, hl with
      | [_], _, hl => simp at hl
      | x :: y :: l, _, _ =>
        have hs := several_reads (sign := 32) (C := Cend) (Cend_cons (by decide) (by decide) (by decide) (by decide)) (E.txl true) E.cnt 115 x (y :: l) (fun z hz => hkids h1 z (by rw [hkk]; exact hz))
        have htxt : e.txl false = x.txl true ++ tailT 32 (E.txl true) (y :: l) := by
          unfold E.txl
          rw [text_eq, if_neg (by omega), if_pos h1, if_neg (by rw [hkk]; simp), par_list, if_neg (by simp), hkk]
          have : (!decide (e.op = 97)) = true := by simp [h1]
          rw [this]
          exact join_list (fun z => z.text true) 32 x (y :: l)
        have he : e = .mk 115 ⟨#[]⟩ (x :: y :: l) := by
          obtain ⟨o, n, ks⟩ := e
          simp only [E.op, E.name, E.kids] at h1 hn hkk
          rw [h1, hn, hkk]
        rw [htxt]
        have hc := kids_sum e
        rw [hkk] at hc
        conv => arg 3; rw [he]
        exact hs.mono (by omega) (fun r hr => hr)
    · omega
    · omega
  · have hw := hw2 h
    have h' : e.op ≠ 115 ∨ e.kids = [] := by
      by_cases h1 : e.op = 115
      · right
        exact Classical.byContradiction fun h2 => h ⟨h1, h2⟩
      · exact .inl h1
    have hs := several_reads (sign := 32) (C := Cend) (Cend_cons (by decide) (by decide) (by decide) (by decide)) (E.txl true) E.cnt 115 e [] (fun z hz => by simp at hz; subst hz; exact hself h')
    have htxt : e.txl false = e.txl true ++ tailT 32 (E.txl true) [] := by
      simp only [tailT, List.map_nil, List.flatten_nil, List.append_nil]
      unfold E.txl
      rw [text_eq e false, text_eq e true]
      by_cases h1 : e.op = 110
      · simp [h1]
      · by_cases h2 : e.op = 115
        · have : e.kids = [] := by rcases h' with h | h; exact absurd h2 h; exact h
          simp [h2, this]
        · simp [h1, h2, hna]
    rw [htxt]
    exact hs.mono (by simpa using hw) (fun r hr => hr)
/-- Whatever it is, as alt reads it. -/
theorem alt_reads (k : Nat) (e : E) (hok : e.ok = true) (w : Nat) (hself : e.op ≠ 97 → Reads (seqR k) (e.txl false) e w Cseq) (hkids : e.op = 97 → ∀ y ∈ e.kids, Reads (seqR k) (y.txl false) y y.cnt Cseq) (hw1 : e.op = 97 → e.cnt - 1 ≤ w) : Reads (altR k) (e.txl false) e w Calt := by
  have hC : ∀ r, Cseq (124 :: r) := fun r => ⟨Cend_cons (by decide) (by decide) (by decide) (by decide) r, by simp⟩
  by_cases h1 : e.op = 97
  · have hw := hw1 h1
    rcases E.ok_ops hok with ⟨h, _⟩ | ⟨h, _⟩ | ⟨_, hn, hl⟩ | ⟨h, _⟩
    · omega
    · omega
    · match hkk : e.kids, hl with
      | x :: y :: l, _ =>
        have hs := several_reads (sign := 124) (C := Cseq) hC (E.txl false) E.cnt 97 x (y :: l) (fun z hz => hkids h1 z (by rw [hkk]; exact hz))
        have htxt : e.txl false = x.txl false ++ tailT 124 (E.txl false) (y :: l) := by
          unfold E.txl
          rw [text_eq, if_neg (by omega), if_neg (by omega), if_pos h1, par_list, if_neg (by simp), hkk]
          have : (!decide (e.op = 97)) = false := by simp [h1]
          rw [this]
          exact join_list (fun z => z.text false) 124 x (y :: l)
        have he : e = .mk 97 ⟨#[]⟩ (x :: y :: l) := by
          obtain ⟨o, n, ks⟩ := e
          simp only [E.op, E.name, E.kids] at h1 hn hkk
          rw [h1, hn, hkk]
        rw [htxt]
        have hc := kids_sum e
        rw [hkk] at hc
        conv => arg 3; rw [he]
        exact hs.mono (by omega) (fun r hr => hr)
    · omega
  · have hs := several_reads (sign := 124) (C := Cseq) hC (E.txl false) (fun _ => w) 97 e [] (fun z hz => by simp at hz; subst hz; exact hself h1)
    have htxt : e.txl false = e.txl false ++ tailT 124 (E.txl false) [] := by simp [tailT]
    rw [htxt]
    exact hs.mono (by simp) (fun r hr => hr)
end Go.Proofs.D
/-
  AN EXPRESSION THAT IS WRITTEN IS READ AS IT WAS: items; the whole.
-/
set_option linter.unusedVariables false
set_option linter.unusedSimpArgs false
namespace Go.Proofs.D
open Go Go.Abs
theorem text_low : ∀ c ∈ (⟨#[116, 101, 120, 116]⟩ : ByteArray).data.toList, isLow c = true := by decide
theorem name_low6 {e : E} (h : e.ok = true) (h1 : e.op = 110) : (∀ c ∈ e.name.data.toList, isLow c = true) ∧ e.name.data.toList ≠ [] := by
  rw [E.ok_eq] at h
  simp [h1] at h
  rcases h.2 with h | h
  · simp only [isName, Bool.and_eq_true, decide_eq_true_eq, List.all_eq_true] at h
    obtain ⟨⟨⟨h2, h3⟩, h4⟩, _⟩ := h
    refine ⟨fun c hc => by have := h4 c hc; simp [isLow, this], fun hn => ?_⟩
    have : e.name.data.toList.length = e.name.size := Array.length_toList
    rw [hn] at this
    simp at this
    omega
  · rw [h]
    exact ⟨text_low, by decide⟩
theorem head_ok (e : E) (h : e.ok = true) (b : Bool) : ∃ c l, e.txl b = c :: l ∧ c ≠ 41 ∧ (isLow c = true ∨ c = 40) := by
  have hkid : ∀ k ∈ e.kids, ¬ e.op = 110 → ∀ b, ∃ c l, k.txl b = c :: l ∧ c ≠ 41 ∧ (isLow c = true ∨ c = 40) := fun k hk h1 b => head_ok k (E.ok_kids h h1 k hk).1 b
  rcases E.ok_ops h with ⟨h1, _⟩ | ⟨h1, _, h2⟩ | ⟨h1, _, h2⟩ | ⟨h1, _, k, h2, _⟩
  · obtain ⟨a, b'⟩ := name_low6 h h1
    unfold E.txl
    rw [text_eq, if_pos h1]
    cases hl : e.name.data.toList with
    | nil => exact absurd hl b'
    | cons c l =>
      rw [hl] at a
      have := a c (by simp)
      refine ⟨c, l, rfl, fun hc => ?_, .inl this⟩
      subst hc
      cases this
  · unfold E.txl
    rw [text_eq, if_neg (by omega), if_pos h1]
    split
    · exact ⟨40, [41], rfl, by decide, .inr rfl⟩
    · rw [par_list]
      split
      · exact ⟨40, _, rfl, by decide, .inr rfl⟩
      · cases hkk : e.kids with
        | nil => rename_i h0 _; rw [hkk] at h0; simp at h0
        | cons x xs =>
          obtain ⟨c, l, q1, q2, q3⟩ := hkid x (by rw [hkk]; simp) (by omega) (!decide (e.op = 97))
          have := join_list (fun z => z.text (!decide (e.op = 97))) 32 x xs
          rw [this]
          exact ⟨c, _, by rw [show (x.text (!decide (e.op = 97))).data.toList = c :: l from q1]; rfl, q2, q3⟩
  · unfold E.txl
    rw [text_eq, if_neg (by omega), if_neg (by omega), if_pos h1, par_list]
    split
    · exact ⟨40, _, rfl, by decide, .inr rfl⟩
    · cases hkk : e.kids with
      | nil => rw [hkk] at h2; simp at h2
      | cons x xs =>
        obtain ⟨c, l, q1, q2, q3⟩ := hkid x (by rw [hkk]; simp) (by omega) (!decide (e.op = 97))
        have := join_list (fun z => z.text (!decide (e.op = 97))) 124 x xs
        rw [this]
        exact ⟨c, _, by rw [show (x.text (!decide (e.op = 97))).data.toList = c :: l from q1]; rfl, q2, q3⟩
  · unfold E.txl
    rw [text_eq, if_neg (by omega), if_neg (by omega), if_neg (by omega), app_list, h2]
    obtain ⟨c, l, q1, q2, q3⟩ := hkid k (by rw [h2]; simp) (by omega) (!decide (e.op = 97))
    have e1 : joinB ([k].map fun z => z.text (!decide (e.op = 97))) ⟨#[]⟩ = k.text (!decide (e.op = 97)) := ext_list (by simp [joinB, Lib.join_one])
    rw [e1]
    exact ⟨c, _, by rw [show (k.text (!decide (e.op = 97))).data.toList = c :: l from q1]; rfl, q2, q3⟩
termination_by SizeOf.sizeOf e
decreasing_by exact E.kids_lt hk
/-- What stands ahead of a sign behind it, as item reads it. -/
theorem base_reads (k : Nat) (e : E) (hok : e.ok = true) (hsx : e.suffix = false) (halt : e.op = 97 ∨ (e.op = 115 ∧ e.kids ≠ []) → Reads (altR k) (e.txl false) e (e.cnt - 1) Calt) (r : List UInt8) (m : Int) (hr : ∀ c, r.head? = some c → isLow c = false) (h0 : 0 ≤ m) (hm : m + (e.cnt - 1 : Nat) ≤ 48) :
    ∃ m' : Int, m ≤ m' ∧ m' ≤ m + (e.cnt - 1 : Nat) ∧ baseF tl (altR k) ⟨B (e.txl true ++ r), false, m⟩ = (e, ⟨B r, false, m'⟩) := by
  have hmk : e = .mk e.op e.name e.kids := by obtain ⟨o, n, ks⟩ := e; rfl
  have bracket : e.txl true = 40 :: (e.txl false ++ [41]) → (e.op = 97 ∨ (e.op = 115 ∧ e.kids ≠ [])) → ∃ m' : Int, m ≤ m' ∧ m' ≤ m + (e.cnt - 1 : Nat) ∧ baseF tl (altR k) ⟨B (e.txl true ++ r), false, m⟩ = (e, ⟨B r, false, m'⟩) := by
    intro ht hop
    obtain ⟨c, l, q1, q2, q3⟩ := head_ok e hok false
    obtain ⟨m', a, b, h⟩ := halt hop (41 :: r) m ⟨⟨Cend_cons (by decide) (by decide) (by decide) (by decide) r, by simp⟩, by simp⟩ h0 hm
    refine ⟨m', a, b, ?_⟩
    have e1 : e.txl true ++ r = [40] ++ (e.txl false ++ (41 :: r)) := by rw [ht]; simp
    have p1 : hasPre (B ([40] ++ (e.txl false ++ (41 :: r)))) ⟨#[40, 41]⟩ = false := by
      cases hh : hasPre (B ([40] ++ (e.txl false ++ (41 :: r)))) ⟨#[40, 41]⟩ with
      | false => rfl
      | true =>
        obtain ⟨z, hz⟩ := (hp_iff _ [40, 41]).1 hh
        rw [q1] at hz
        simp at hz
        exact absurd hz.1 q2
    have p2 := hp_yes [40] (e.txl false ++ (41 :: r))
    have p3 := hp_yes [41] r
    unfold baseF
    rw [e1]
    simp only [p1, St.cut, cp_no p1, show hasPre (B ([40] ++ (e.txl false ++ (41 :: r)))) ⟨#[40]⟩ = true from p2, show cutPre (B ([40] ++ (e.txl false ++ (41 :: r)))) ⟨#[40]⟩ = B (e.txl false ++ (41 :: r)) from cp_yes [40] _, h,
      show hasPre (B (41 :: r)) ⟨#[41]⟩ = true from p3, show cutPre (B (41 :: r)) ⟨#[41]⟩ = B r from cp_yes [41] r]
    rfl
  rcases E.ok_ops hok with ⟨h1, hk⟩ | ⟨h1, hn, h2⟩ | ⟨h1, hn, h2⟩ | ⟨h1, hn, x, h2, _⟩
  · obtain ⟨hl, hne⟩ := name_low6 hok h1
    have ht : e.txl true = e.name.data.toList := by unfold E.txl; rw [text_eq, if_pos h1]
    refine ⟨m, Int.le_refl _, by omega, ?_⟩
    rw [ht]
    have hd : (e.name.data.toList ++ r).dropWhile isLow = r := by
      have : ∀ l : List UInt8, (∀ c ∈ l, isLow c = true) → (l ++ r).dropWhile isLow = r := by
        intro l
        induction l with
        | nil =>
          intro _
          cases r with
          | nil => rfl
          | cons c r => simp [List.dropWhile, hr c rfl]
        | cons x l ih =>
          intro h
          simp [List.dropWhile, h x (by simp), ih fun c hc => h c (by simp [hc])]
      exact this _ hl
    have hh : ∀ x : UInt8, isLow x = false → (e.name.data.toList ++ r).head? ≠ some x := by
      intro x hx
      cases hnl : e.name.data.toList with
      | nil => exact absurd hnl hne
      | cons c l =>
        simp
        intro hc
        subst hc
        rw [hl c (by rw [hnl]; simp)] at hx
        cases hx
    have p1 : hasPre (B (e.name.data.toList ++ r)) ⟨#[40, 41]⟩ = false := by
      cases hq : hasPre (B (e.name.data.toList ++ r)) ⟨#[40, 41]⟩ with
      | false => rfl
      | true =>
        obtain ⟨z, hz⟩ := (hp_iff _ [40, 41]).1 hq
        exact absurd (by rw [hz]; rfl) (hh 40 (by decide))
    have p2 : hasPre (B (e.name.data.toList ++ r)) ⟨#[40]⟩ = false := hp_one_no (hh 40 (by decide))
    have htl : tl (B (e.name.data.toList ++ r)) = B r := by rw [tl_B, hd]
    have hex : (B (e.name.data.toList ++ r)).extract 0 ((B (e.name.data.toList ++ r)).size - (B r).size) = e.name := by
      refine ext_list ?_
      rw [extract_list, B_list, B_size, B_size]
      simp
    unfold baseF
    simp only [p1, St.cut, cp_no p1, p2, cp_no p2, htl, hex]
    conv => rhs; rw [hmk, h1, hk]
    rfl
  · by_cases hk : e.kids = []
    · have ht : e.txl true = [40, 41] := by unfold E.txl; rw [text_eq, if_neg (by omega), if_pos h1, if_pos (by rw [hk]; rfl)]
      refine ⟨m, Int.le_refl _, by omega, ?_⟩
      rw [ht]
      unfold baseF
      have p1 := hp_yes [40, 41] r
      simp only [show hasPre (B ([40, 41] ++ r)) ⟨#[40, 41]⟩ = true from p1, St.cut, show cutPre (B ([40, 41] ++ r)) ⟨#[40, 41]⟩ = B r from cp_yes [40, 41] r]
      conv => rhs; rw [hmk, h1, hk, hn]
      rfl
    · refine bracket ?_ (.inr ⟨h1, hk⟩)
      have ht : ∀ b, e.text b = par b (joinB (e.kids.map fun k => k.text (!decide (e.op = 97))) ⟨#[32]⟩) := fun b => by
        rw [text_eq, if_neg (by omega), if_pos h1, if_neg (by simpa using hk)]
      unfold E.txl
      rw [ht, ht, par_list, par_list]
      simp
  · refine bracket ?_ (.inl h1)
    have ht : ∀ b, e.text b = par b (joinB (e.kids.map fun k => k.text (!decide (e.op = 97))) ⟨#[124]⟩) := fun b => by
      rw [text_eq, if_neg (by omega), if_neg (by omega), if_pos h1]
    unfold E.txl
    rw [ht, ht, par_list, par_list]
    simp
  · exfalso
    simp [E.suffix] at hsx
    omega
theorem sfx_none (e : E) (r : List UInt8) (m : Int) (hr : Cend r) : sfx e [42, 43, 63] ⟨B r, false, m⟩ = (e, ⟨B r, false, m⟩) := by
  have h : ∀ c : UInt8, (c = 42 ∨ c = 43 ∨ c = 63) → hasPre (B r) (B [c]) = false := by
    intro c hc
    refine hp_one_no fun hh => ?_
    have := hr c hh
    rcases hc with rfl | rfl | rfl
    · exact this.2.1 rfl
    · exact this.2.2.1 rfl
    · exact this.2.2.2 rfl
  have h1 : hasPre (B r) ⟨#[42]⟩ = false := h 42 (by simp)
  have h2 : hasPre (B r) ⟨#[43]⟩ = false := h 43 (by simp)
  have h3 : hasPre (B r) ⟨#[63]⟩ = false := h 63 (by simp)
  simp only [sfx, enc42, enc43, enc63, h1, h2, h3, St.cut, cp_no h1, cp_no h2, cp_no h3]
  rfl
theorem sfx_one (e : E) (o : Int) (c : UInt8) (ho : (o = 42 ∧ c = 42) ∨ (o = 43 ∧ c = 43) ∨ (o = 63 ∧ c = 63)) (r : List UInt8) (m : Int) : sfx e [42, 43, 63] ⟨B (c :: r), false, m⟩ = (.mk o ⟨#[]⟩ [e], ⟨B r, false, m⟩) := by
  have hy := hp_yes [c] r
  have hc := cp_yes [c] r
  have hn : ∀ d : UInt8, d ≠ c → hasPre (B (c :: r)) (B [d]) = false := fun d hd => hp_one_no (by simp; exact fun h => hd h.symm)
  rcases ho with ⟨rfl, rfl⟩ | ⟨rfl, rfl⟩ | ⟨rfl, rfl⟩
  · have h1 : hasPre (B (42 :: r)) ⟨#[42]⟩ = true := hy
    have h2 : cutPre (B (42 :: r)) ⟨#[42]⟩ = B r := hc
    simp only [sfx, enc42, h1, St.cut, h2]
    rfl
  · have h1 : hasPre (B (43 :: r)) ⟨#[43]⟩ = true := hy
    have h2 : cutPre (B (43 :: r)) ⟨#[43]⟩ = B r := hc
    have h3 : hasPre (B (43 :: r)) ⟨#[42]⟩ = false := hn 42 (by decide)
    simp only [sfx, enc42, enc43, h1, St.cut, h2, h3, cp_no h3]
    rfl
  · have h1 : hasPre (B (63 :: r)) ⟨#[63]⟩ = true := hy
    have h2 : cutPre (B (63 :: r)) ⟨#[63]⟩ = B r := hc
    have h3 : hasPre (B (63 :: r)) ⟨#[42]⟩ = false := hn 42 (by decide)
    have h4 : hasPre (B (63 :: r)) ⟨#[43]⟩ = false := hn 43 (by decide)
    simp only [sfx, enc42, enc43, enc63, h1, St.cut, h2, h3, cp_no h3, h4, cp_no h4]
    rfl
theorem enc_op {o : Int} (h : o = 42 ∨ o = 43 ∨ o = 63) : ∃ c : UInt8, Utf8.encode (wr .i32 o) = B [c] ∧ ((o = 42 ∧ c = 42) ∨ (o = 43 ∧ c = 43) ∨ (o = 63 ∧ c = 63)) ∧ isLow c = false := by
  rcases h with rfl | rfl | rfl
  · exact ⟨42, enc42, by simp, by decide⟩
  · exact ⟨43, enc43, by simp, by decide⟩
  · exact ⟨63, enc63, by simp, by decide⟩
/-- Each item is read as it was written, whatever fuel is left, if there is enough. -/
theorem item_reads : ∀ (n : Nat) (e : E), e.cnt ≤ n → e.ok = true → ∀ k, e.cnt ≤ k → Reads (itemN tl k) (e.txl true) e e.cnt Cend
  | 0, e, hn, _, _, _ => by have := cnt_eq e; omega
  | n + 1, e, hn, hok, k, hk => by
    have hc := cnt_eq e
    obtain ⟨k, rfl⟩ : ∃ j, k = j + 1 := ⟨k - 1, by omega⟩
    have IH : ∀ y : E, y.cnt < e.cnt → y.ok = true → Reads (itemN tl k) (y.txl true) y y.cnt Cend := fun y hy hyo => item_reads n y (by omega) hyo k (by omega)
    -- a sequence or less, of which all items are smaller
    have SQ : ∀ y : E, y.cnt < e.cnt → y.ok = true → y.op ≠ 97 → Reads (seqR k) (y.txl false) y y.cnt Cseq := fun y hy hyo hna =>
      seq_reads k y hyo hna (fun _ => IH y hy hyo) (fun h115 z hz => IH z (by have := cnt_kid hz; omega) (E.ok_kids hyo (by omega) z hz).1) y.cnt (fun _ => by omega) (fun _ => Nat.le_refl _)
    have AL : ∀ y : E, y.cnt ≤ e.cnt → y.ok = true → (y.op = 97 ∨ (y.op = 115 ∧ y.kids ≠ [])) → Reads (altR k) (y.txl false) y (y.cnt - 1) Calt := fun y hy hyo hop => by
      refine alt_reads k y hyo (y.cnt - 1) (fun h97 => ?_) (fun h97 z hz => ?_) (fun _ => Nat.le_refl _)
      · have h115 : y.op = 115 ∧ y.kids ≠ [] := by rcases hop with h | h; exact absurd h h97; exact h
        exact seq_reads k y hyo h97 (fun h => by rcases h with h | h; exact absurd h115.1 h; exact absurd h h115.2) (fun _ z hz => IH z (by have := cnt_kid hz; omega) (E.ok_kids hyo (by omega) z hz).1) (y.cnt - 1) (fun _ => Nat.le_refl _) (fun h => absurd h115 h)
      · have hz' := E.ok_kids hyo (by omega) z hz
        exact SQ z (by have := cnt_kid hz; omega) hz'.1 (by rw [← h97]; exact hz'.2)
    intro r m hr h0 hm
    have hw : wr .i64 (m + 1) = m + 1 := wr64 _ (by omega)
    have h48 : ¬ 48 < m + 1 := by omega
    cases hsx : e.suffix with
    | false =>
      obtain ⟨m', a, b, h⟩ := base_reads k e hok hsx (AL e (Nat.le_refl _) hok) r (m + 1) (fun c hc => (hr c hc).1) (by omega) (by omega)
      refine ⟨m', by omega, by omega, ?_⟩
      simp only [itemN, itemF, hw, if_neg h48]
      rw [h]
      exact sfx_none e r m' hr
    | true =>
      rcases E.ok_ops hok with ⟨h1, _⟩ | ⟨h1, _⟩ | ⟨h1, _⟩ | ⟨h1, hn', x, h2, hx⟩
      · simp [E.suffix, h1] at hsx
      · simp [E.suffix, h1] at hsx
      · simp [E.suffix, h1] at hsx
      · obtain ⟨c, q1, q2, q3⟩ := enc_op (o := e.op) (by omega)
        have hxo := (E.ok_kids hok (by omega) x (by rw [h2]; simp)).1
        have hcx : e.cnt = 1 + x.cnt := by rw [hc, h2]; simp
        have ht : e.txl true = x.txl true ++ [c] := by
          unfold E.txl
          rw [text_eq, if_neg (by omega), if_neg (by omega), if_neg (by omega), app_list, h2, q1, B_list]
          have e1 : joinB ([x].map fun z => z.text (!decide (e.op = 97))) ⟨#[]⟩ = x.text (!decide (e.op = 97)) := ext_list (by simp [joinB, Lib.join_one])
          have e2 : (!decide (e.op = 97)) = true := by simp; omega
          rw [e1, e2]
        obtain ⟨m', a, b, h⟩ := base_reads k x hxo hx (AL x (by omega) hxo) (c :: r) (m + 1) (fun d hd => by simp at hd; subst hd; exact q3) (by omega) (by omega)
        refine ⟨m', by omega, by omega, ?_⟩
        have he : e = .mk e.op ⟨#[]⟩ [x] := by
          obtain ⟨o, nn, ks⟩ := e
          simp only [E.name, E.kids] at hn' h2
          rw [hn', h2]
          rfl
        simp only [itemN, itemF, hw, if_neg h48]
        rw [ht, List.append_assoc]
        show sfx (baseF tl (altR k) ⟨B (x.txl true ++ ([c] ++ r)), false, m + 1⟩).1 _ (baseF tl (altR k) ⟨B (x.txl true ++ ([c] ++ r)), false, m + 1⟩).2 = _
        rw [show ([c] ++ r : List UInt8) = c :: r from rfl, h, sfx_one x e.op c q2 r m']
        conv => rhs; rw [he]
/-- WRITTEN AND READ: as it was. -/
theorem parse_text (e : E) (hr : e.right = true) (hc : e.cnt ≤ 1000) : parse (e.text false) = (e, 0) := by
  have hok : e.ok = true := by simp [E.right] at hr; exact hr.2
  have h24 : e.cnt ≤ 24 := by
    simp [E.right] at hr
    have := many_cnt e (by omega)
    omega
  have IT : ∀ y : E, y.cnt ≤ 24 → y.ok = true → Reads (itemN tl 49) (y.txl true) y y.cnt Cend := fun y hy hyo => item_reads 24 y hy hyo 49 (by omega)
  have SQ : ∀ y : E, y.cnt ≤ 24 → y.ok = true → y.op ≠ 97 → Reads (seqR 49) (y.txl false) y y.cnt Cseq := fun y hy hyo hna =>
    seq_reads 49 y hyo hna (fun _ => IT y hy hyo) (fun h115 z hz => IT z (by have := cnt_kid hz; omega) (E.ok_kids hyo (by omega) z hz).1) y.cnt (fun _ => by omega) (fun _ => Nat.le_refl _)
  have AL := alt_reads 49 e hok e.cnt (fun h => SQ e h24 hok h) (fun h97 z hz => by
    have hz' := E.ok_kids hok (by omega) z hz
    exact SQ z (by have := cnt_kid hz; omega) hz'.1 (by rw [← h97]; exact hz'.2)) (fun _ => by omega)
  obtain ⟨m', _, _, h⟩ := AL [] 0 ⟨⟨fun c hc => by simp at hc, by simp⟩, by simp⟩ (by omega) (by omega)
  have hread : read (e.text false) = (e, ⟨B [], false, m'⟩) := by
    have : e.text false = B (e.txl false ++ []) := by rw [List.append_nil, B_data]
    rw [this]
    exact h
  unfold parse
  rw [hread]
  simp [hr]
end Go.Proofs.D
