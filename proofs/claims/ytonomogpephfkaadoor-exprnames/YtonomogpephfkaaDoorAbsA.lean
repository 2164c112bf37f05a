/-
  AN ABSTRACT MEMORY FOR ONE CALL: pure values, named blocks of the call's own, read-only data; what it means of a world of the model. No program in sight.
-/
import Derived.WalkKit
import Derived.Below
import Derived.Laws.AppendOwn
import Derived.Laws.Rows
import Derived.Laws.Tables
import Derived.Laws.CopyRow
set_option linter.unusedVariables false
set_option linter.unusedSimpArgs false
namespace Go.Abs
open Go.RowKit

/-- Names of the call's own blocks. -/
inductive Nm where
  | loc (t : Nat)
  | can (k : Nat)
  | out (i : Nat)
  | arg (i : Nat)
  deriving DecidableEq

/-- One cell of what is only read. -/
inductive PV where
  | val (v : Value)
  | ro (sz : Nat) (es : List (List PV))
  | nilS (sz : Nat)

/-- A value, as a slot or a variable holds it. -/
inductive AV where
  | pv (p : PV)
  | agg (l : List AV)
  | tup (l : List AV)
  | own (r : Nm)
  | ptr (r : Nm) (off : Nat)
  | ept (r : Nm) (sz i f : Nat)
  | rop (cs : List PV)
  | fn (f : Fn) (first caps : List AV)
  | hmap (r : Nm)
  | rom (Q : Obj → Prop)
  | opq (Q : World → (Nat → Prop) → Value → Prop)
  | any

/-- A block of the call's own: a variable; a row of elements; whatever else (a map); what goes through a map that is only read. -/
inductive Blk where
  | box (ty : Nat) (cs : List AV)
  | row (e sz : Nat) (es : List (List PV))
  | raw (Q : Obj → Prop)
  | iter (Q : Nat → Obj → Obj → Prop)

/-- Where a named block lies. -/
inductive Hd where
  | dead
  | box (k : Nat)
  | row (v : Value)

def Hd.owns : Hd → Nat → Prop
  | .dead, _ => False
  | .box k, j => k = j
  | .row v, j => v.ownBlock = some j

/-- The names that a value names. -/
def AV.ments : AV → List Nm
  | .pv _ => []
  | .agg l => mentsL l
  | .tup l => mentsL l
  | .own r => [r]
  | .ptr r _ => [r]
  | .ept r _ _ _ => [r]
  | .rop _ => []
  | .fn _ a b => mentsL a ++ mentsL b
  | .hmap r => [r]
  | .rom _ => []
  | .opq _ => []
  | .any => []
where mentsL : List AV → List Nm
  | [] => []
  | x :: l => x.ments ++ mentsL l

def Blk.ments : Blk → List Nm
  | .box _ cs => AV.ments.mentsL cs
  | .row .. => []
  | .raw _ => []
  | .iter _ => []

/-- A read-only cell, as world w has it; its rows lie in blocks of which F holds. -/
inductive RepP (w : World) (F : Nat → Prop) : PV → Value → Prop where
  | val (v : Value) (h1 : v.oneCell' = true) : RepP w F (.val v) v
  | ro (sz : Nat) (es : List (List PV)) (A : Option Addr) (cap : Nat) (u : Nat → Nat → Value) (hA : A = none → cap = 0) (hc : es.length ≤ cap) (hm : es.length ≤ 9223372036854775807)
      (hl : ∀ (i : Nat) (e : List PV), es[i]? = some e → e.length = sz)
      (ha : es ≠ [] → ∃ ad : Addr, A = some ad ∧ ad.spot = none ∧ F ad.block ∧ ∀ (i j : Nat) (e : List PV) (c : PV), es[i]? = some e → e[j]? = some c → w.cell? (ad.add (i * sz + j)) = some (u i j))
      (hr : ∀ (i j : Nat) (e : List PV) (c : PV), es[i]? = some e → e[j]? = some c → RepP w F c (u i j)) : RepP w F (.ro sz es) (.slice A es.length cap)
  | nilS (sz : Nat) : RepP w F (.nilS sz) (.slice none 0 0)

theorem RepP.one {w : World} {F : Nat → Prop} {p : PV} {v : Value} (h : RepP w F p v) : v.oneCell' = true := by
  cases h with
  | val _ h1 => exact h1
  | ro => rfl
  | nilS => rfl

theorem RepP.mono {w w' : World} {F F' : Nat → Prop} (hw : ∀ k, F k → w'.heap[k]? = w.heap[k]?) (hF : ∀ k, F k → F' k) {p : PV} {v : Value} (h : RepP w F p v) : RepP w' F' p v := by
  induction h with
  | val v h1 => exact .val v h1
  | nilS sz => exact .nilS sz
  | ro sz es A cap u hA hc hm hl ha hr ih =>
    refine .ro sz es A cap u hA hc hm hl (fun hne => ?_) ih
    obtain ⟨ad, e1, e2, e3, e4⟩ := ha hne
    refine ⟨ad, e1, e2, hF _ e3, fun i j e c h1 h2 => ?_⟩
    rw [← e4 i j e c h1 h2]
    refine World.cell?_of_block (w := w) ?_
    have : (ad.add (i * sz + j)).block = ad.block := by unfold Addr.add; split <;> rfl
    rw [this]
    exact hw _ e3

/-- A value, as world w has it, blocks being where hd says. -/
inductive Rep (w : World) (F : Nat → Prop) (hd : Nm → Hd) : AV → Value → Prop where
  | pv (p : PV) (v : Value) (h : RepP w F p v) : Rep w F hd (.pv p) v
  | agg (l : List AV) (cs : List Value) (hl : cs.length = l.length) (h : ∀ (j : Nat) (c : AV) (v : Value), l[j]? = some c → cs[j]? = some v → Rep w F hd c v) (h1 : ∀ v ∈ cs, v.oneCell' = true) : Rep w F hd (.agg l) (.agg cs.toArray)
  | tup (l : List AV) (cs : List Value) (hl : cs.length = l.length) (h : ∀ (j : Nat) (c : AV) (v : Value), l[j]? = some c → cs[j]? = some v → Rep w F hd c v) : Rep w F hd (.tup l) (.tuple cs.toArray)
  | own (r : Nm) (v : Value) (h1 : v.oneCell' = true) (h : ∀ u, hd r = .row u → v = u) : Rep w F hd (.own r) v
  | ptr (r : Nm) (off : Nat) (v : Value) (h1 : v.oneCell' = true) (h : ∀ k, hd r = .box k → v = .pointer (some ⟨k, off, none⟩)) : Rep w F hd (.ptr r off) v
  | ept (r : Nm) (sz i f : Nat) (v : Value) (h1 : v.oneCell' = true) (h : ∀ g n c, hd r = .row (.slice (some ⟨g, 0, none⟩) n c) → v = .pointer (some ⟨g, i * sz + f, none⟩)) : Rep w F hd (.ept r sz i f) v
  | rop (cs : List PV) (ad : Addr) (u : Nat → Value) (hs : ad.spot = none) (hF : F ad.block) (hc : ∀ (j : Nat) (c : PV), cs[j]? = some c → w.cell? (ad.add j) = some (u j)) (hr : ∀ (j : Nat) (c : PV), cs[j]? = some c → RepP w F c (u j)) : Rep w F hd (.rop cs) (.pointer (some ad))
  | fn (f : Fn) (a b : List AV) (va vb : List Value) (ha : va.length = a.length) (hb : vb.length = b.length) (h : ∀ (j : Nat) (c : AV) (v : Value), a[j]? = some c → va[j]? = some v → Rep w F hd c v) (h' : ∀ (j : Nat) (c : AV) (v : Value), b[j]? = some c → vb[j]? = some v → Rep w F hd c v) : Rep w F hd (.fn f a b) (.func f va.toArray vb.toArray)
  | hmap (r : Nm) (v : Value) (h1 : v.oneCell' = true) (h : ∀ k, hd r = .box k → v = .map (some k)) : Rep w F hd (.hmap r) v
  | rom (Q : Obj → Prop) (k : Nat) (o : Obj) (hF : F k) (ho : w.heap[k]? = some o) (hq : Q o) : Rep w F hd (.rom Q) (.map (some k))
  | opq (Q : World → (Nat → Prop) → Value → Prop) (v : Value) (h1 : v.oneCell' = true) (h : ∀ (w' : World) (F' : Nat → Prop), (∀ k, F k → w'.heap[k]? = w.heap[k]?) → (∀ k, F k → F' k) → Q w' F' v) : Rep w F hd (.opq Q) v
  | any (v : Value) : Rep w F hd .any v

theorem mem_mentsL {r : Nm} {x : AV} : ∀ {l : List AV} {j : Nat}, l[j]? = some x → r ∈ x.ments → r ∈ AV.ments.mentsL l
  | [], _, h, _ => by simp at h
  | y :: l, 0, h, hr => by simp at h; subst h; simp [AV.ments.mentsL, hr]
  | y :: l, j + 1, h, hr => by simp at h; simp [AV.ments.mentsL, mem_mentsL h hr]

theorem Rep.mono {w w' : World} {F F' : Nat → Prop} {hd hd' : Nm → Hd} (hw : ∀ k, F k → w'.heap[k]? = w.heap[k]?) (hF : ∀ k, F k → F' k) {x : AV} {v : Value} (h : Rep w F hd x v)
    (hh : ∀ r, r ∈ x.ments → hd' r = hd r ∨ hd' r = .dead) : Rep w' F' hd' x v := by
  induction h with
  | pv p v h => exact .pv p v (h.mono hw hF)
  | agg l cs hl h h1 ih => exact .agg l cs hl (fun j c v hj hv => ih j c v hj hv fun r hr => hh r (by simp only [AV.ments]; exact mem_mentsL hj hr)) h1
  | tup l cs hl h ih => exact .tup l cs hl (fun j c v hj hv => ih j c v hj hv fun r hr => hh r (by simp only [AV.ments]; exact mem_mentsL hj hr))
  | own r v h1 h =>
    refine .own r v h1 fun u hu => ?_
    rcases hh r (by simp [AV.ments]) with e | e
    · exact h u (e ▸ hu)
    · rw [e] at hu; cases hu
  | ptr r off v h1 h =>
    refine .ptr r off v h1 fun u hu => ?_
    rcases hh r (by simp [AV.ments]) with e | e
    · exact h u (e ▸ hu)
    · rw [e] at hu; cases hu
  | ept r sz i f v h1 h =>
    refine .ept r sz i f v h1 fun g n c hu => ?_
    rcases hh r (by simp [AV.ments]) with e | e
    · exact h g n c (e ▸ hu)
    · rw [e] at hu; cases hu
  | rop cs ad u hs h1 hc hr =>
    refine .rop cs ad u hs (hF _ h1) (fun j c hj => ?_) (fun j c hj => (hr j c hj).mono hw hF)
    rw [← hc j c hj]
    refine World.cell?_of_block (w := w) ?_
    have : (ad.add j).block = ad.block := by unfold Addr.add; split <;> rfl
    rw [this]
    exact hw _ h1
  | fn f a b va vb ha hb h h' ih ih' =>
    exact .fn f a b va vb ha hb (fun j c v hj hv => ih j c v hj hv fun r hr => hh r (by simp only [AV.ments, List.mem_append]; exact .inl (mem_mentsL hj hr)))
      (fun j c v hj hv => ih' j c v hj hv fun r hr => hh r (by simp only [AV.ments, List.mem_append]; exact .inr (mem_mentsL hj hr)))
  | hmap r v h1 h =>
    refine .hmap r v h1 fun u hu => ?_
    rcases hh r (by simp [AV.ments]) with e | e
    · exact h u (e ▸ hu)
    · rw [e] at hu; cases hu
  | rom Q k o h1 ho hq => exact .rom Q k o (hF _ h1) ((hw _ h1).trans ho) hq
  | opq Q v h1 h => exact .opq Q v h1 fun w2 F2 e1 e2 => h w2 F2 (fun k hk => (e1 k (hF k hk)).trans (hw k hk)) (fun k hk => e2 k (hF k hk))
  | any v => exact .any v

/-- What is known: slots and blocks (the first row of a key counts). -/
structure LS where
  σ : List (Nat × AV)
  H : List (Nm × Option Blk)

def lkS : List (Nat × AV) → Nat → AV
  | [], _ => .any
  | (k, v) :: l, t => if k = t then v else lkS l t
def Nm.eqb : Nm → Nm → Bool
  | .loc a, .loc b | .can a, .can b | .out a, .out b | .arg a, .arg b => Nat.beq a b
  | _, _ => false
theorem Nm.eqb_iff (a b : Nm) : a.eqb b = true ↔ a = b := by cases a <;> cases b <;> simp [Nm.eqb, Nat.beq_eq]
def lkH : List (Nm × Option Blk) → Nm → Option Blk
  | [], _ => none
  | (k, v) :: l, r => if k.eqb r = true then v else lkH l r
def setS : List (Nat × AV) → Nat → AV → List (Nat × AV)
  | [], t, v => [(t, v)]
  | (k, u) :: l, t, v => if k = t then (t, v) :: l else (k, u) :: setS l t v
def setH : List (Nm × Option Blk) → Nm → Option Blk → List (Nm × Option Blk)
  | [], r, b => [(r, b)]
  | (k, u) :: l, r, b => if k.eqb r = true then (r, b) :: l else (k, u) :: setH l r b
theorem lkS_setS (l : List (Nat × AV)) (t : Nat) (v : AV) (s : Nat) : lkS (setS l t v) s = if s = t then v else lkS l s := by
  induction l with
  | nil =>
    by_cases h : t = s
    · subst h; simp [setS, lkS]
    · have h' : ¬ s = t := fun e => h e.symm
      simp [setS, lkS, h, h']
  | cons x l ih =>
    obtain ⟨k, u⟩ := x
    by_cases h : k = t
    · subst h
      by_cases hs : k = s
      · subst hs; simp [setS, lkS]
      · have h' : ¬ s = k := fun e => hs e.symm
        simp [setS, lkS, hs, h']
    · simp only [setS, lkS, h, if_false, ih]
      by_cases hs : k = s
      · subst hs; simp [h]
      · simp [hs]
theorem lkH_setH (l : List (Nm × Option Blk)) (t : Nm) (v : Option Blk) (s : Nm) : lkH (setH l t v) s = if s = t then v else lkH l s := by
  induction l with
  | nil =>
    by_cases h : t = s
    · subst h; simp [setH, lkH, Nm.eqb_iff]
    · have h' : ¬ s = t := fun e => h e.symm
      simp [setH, lkH, Nm.eqb_iff, h, h']
  | cons x l ih =>
    obtain ⟨k, u⟩ := x
    by_cases h : k = t
    · subst h
      by_cases hs : k = s
      · subst hs; simp [setH, lkH, Nm.eqb_iff]
      · have h' : ¬ s = k := fun e => hs e.symm
        simp [setH, lkH, Nm.eqb_iff, hs, h']
    · simp only [setH, lkH, Nm.eqb_iff, h, if_false, ih]
      by_cases hs : k = s
      · subst hs; simp [h]
      · simp [hs]

def LS.get (L : LS) (t : Nat) : AV := lkS L.σ t
def LS.blk (L : LS) (r : Nm) : Option Blk := lkH L.H r
def LS.put (L : LS) (d : Option Nat) (v : AV) : LS := match d with
  | some d => { L with σ := setS L.σ d v }
  | none => L
def LS.upd (L : LS) : List (Nm × Option Blk) → LS
  | [] => L
  | (r, b) :: ups => LS.upd { L with H := setH L.H r b } ups
/-- Is a name named nowhere? -/
def LS.Fresh (L : LS) (r : Nm) : Prop := (∀ t, r ∉ (L.get t).ments) ∧ ∀ s b, L.blk s = some b → r ∉ b.ments
/-- The same, of lists, to be reckoned. -/
def notIn (r : Nm) : List Nm → Bool
  | [] => true
  | x :: l => if x.eqb r = true then false else notIn r l
theorem notIn_iff (r : Nm) (l : List Nm) : notIn r l = true ↔ r ∉ l := by
  induction l with
  | nil => simp [notIn]
  | cons x l ih =>
    by_cases h : x = r
    · subst h; simp [notIn, Nm.eqb_iff]
    · have h' : ¬ r = x := fun e => h e.symm
      simp [notIn, Nm.eqb_iff, h, ih, h']
def LS.freshB (L : LS) (r : Nm) : Bool := go L.σ && goH L.H
where
  go : List (Nat × AV) → Bool
    | [] => true
    | (_, v) :: l => notIn r v.ments && go l
  goH : List (Nm × Option Blk) → Bool
    | [] => true
    | (_, some b) :: l => notIn r b.ments && goH l
    | (_, none) :: l => goH l
theorem LS.fresh_of {L : LS} {r : Nm} (h : L.freshB r = true) : L.Fresh r := by
  simp only [LS.freshB, Bool.and_eq_true] at h
  obtain ⟨h1, h2⟩ := h
  constructor
  · intro t
    unfold LS.get
    generalize L.σ = l at h1
    induction l with
    | nil => simp [lkS, AV.ments]
    | cons x l ih =>
      obtain ⟨k, u⟩ := x
      simp only [LS.freshB.go, Bool.and_eq_true, notIn_iff] at h1
      simp only [lkS]
      split
      · exact h1.1
      · exact ih h1.2
  · intro s b hb
    unfold LS.blk at hb
    generalize L.H = l at h2 hb
    induction l with
    | nil => simp [lkH] at hb
    | cons x l ih =>
      obtain ⟨k, u⟩ := x
      simp only [lkH] at hb
      cases u with
      | none =>
        simp only [LS.freshB.goH] at h2
        split at hb
        · cases hb
        · exact ih h2 hb
      | some c =>
        simp only [LS.freshB.goH, Bool.and_eq_true, notIn_iff] at h2
        split at hb
        · cases hb; exact h2.1
        · exact ih h2.2 hb

/-- What is taken for granted of the memory (the tables of the library); it lies in blocks of which F holds. -/
structure Granted where
  p : World → (Nat → Prop) → Prop
  mono : ∀ {w w' : World} {F F' : Nat → Prop}, p w F → (∀ k, F k → w'.heap[k]? = w.heap[k]?) → (∀ k, F k → F' k) → p w' F'

/-- A call that goes on: the program, the function, the world in which it began; what may be read (F0), the blocks that are handed on (hd0), what is taken for granted (Gl), what must hold in the end. -/
structure Ctx where
  P : Program
  f : FuncId
  fn : Func
  w0 : World
  F0 : Nat → Prop
  hd0 : Nm → Hd
  Gl : Granted
  R : Ending → World → Prop

/-- What the call may write, of what was there. -/
def Ctx.may (C : Ctx) (k : Nat) : Prop := ∃ r, (C.hd0 r).owns k

/-- Where a block lies, and what is in it. -/
def HoldB (w : World) (F : Nat → Prop) (hd : Nm → Hd) (r : Nm) : Option Blk → Prop
  | none => hd r = .dead
  | some (.box ty cs) => ∃ k arr, hd r = .box k ∧ w.heap[k]? = some (.cells arr ty (0, 0)) ∧ arr.size = cs.length ∧ (∀ (j : Nat) (c : AV) (v : Value), cs[j]? = some c → arr[j]? = some v → Rep w F hd c v) ∧ ∀ v ∈ arr.toList, v.oneCell' = true
  | some (.row e sz es) => ∃ v cells, hd r = .row v ∧ w.ownsRow 0 e sz v es.length cells ∧ (∀ (i : Nat) (el : List PV), es[i]? = some el → el.length = sz) ∧ (∀ (i j : Nat) (el : List PV) (c : PV) (u : Value), es[i]? = some el → el[j]? = some c → cells[i * sz + j]? = some u → RepP w F c u) ∧ ∀ v ∈ cells, v.oneCell' = true
  | some (.raw Q) => ∃ k o, hd r = .box k ∧ w.heap[k]? = some o ∧ Q o
  | some (.iter Q) => ∃ k o b ob, hd r = .box k ∧ w.heap[k]? = some o ∧ F b ∧ w.heap[b]? = some ob ∧ Q b ob o

structure Inv (C : Ctx) (L : LS) (hd : Nm → Hd) (F : Nat → Prop) (a : Act) (w : World) : Prop where
  slots : ∀ t, Rep w F hd (L.get t) (a.tmps.getD t undef)
  blocks : ∀ r, HoldB w F hd r (L.blk r)
  sep : ∀ r s k, r ≠ s → (hd r).owns k → ¬ (hd s).owns k
  mine : ∀ r k, (hd r).owns k → ¬ F k ∧ k < w.heap.size ∧ (C.w0.heap.size ≤ k ∨ C.may k)
  fin : ∀ k, F k → k < w.heap.size ∧ (C.F0 k ∨ C.w0.heap.size ≤ k ∨ C.may k)
  more : ∀ k, C.F0 k → F k
  kept : ∀ i, hd (.arg i) = C.hd0 (.arg i) ∨ hd (.arg i) = .dead
  gl : C.Gl.p w F
  os : w.os = C.w0.os
  tape : w.tape = C.w0.tape
  output : w.output = C.w0.output
  size : C.w0.heap.size ≤ w.heap.size
  old : ∀ k, k < C.w0.heap.size → ¬ C.may k → w.heap[k]? = C.w0.heap[k]?
  ntmps : a.tmps.size = C.fn.ntmps
  defers : a.defers = []

theorem HoldB.mono {w w' : World} {F F' : Nat → Prop} {hd hd' : Nm → Hd} {r : Nm} {b : Option Blk} (h : HoldB w F hd r b) (hF : ∀ k, F k → w'.heap[k]? = w.heap[k]?) (hFF : ∀ k, F k → F' k) (hr : hd' r = hd r) (hk : ∀ k, (hd r).owns k → w'.heap[k]? = w.heap[k]?)
    (hm : ∀ c, b = some c → ∀ s, s ∈ c.ments → hd' s = hd s ∨ hd' s = .dead) : HoldB w' F' hd' r b := by
  cases b with
  | none => exact hr.trans h
  | some b =>
    cases b with
    | box ty cs =>
      obtain ⟨k, arr, h1, h2, h3, h4, h5⟩ := h
      refine ⟨k, arr, hr.trans h1, (hk k (by rw [h1]; exact rfl)).trans h2, h3, fun j c v hj hv => (h4 j c v hj hv).mono hF hFF fun s hs => hm _ rfl s ?_, h5⟩
      simp only [Blk.ments]
      exact mem_mentsL hj hs
    | row e sz es =>
      obtain ⟨v, cells, h1, h2, h3, h4, h5⟩ := h
      refine ⟨v, cells, hr.trans h1, ?_, h3, fun i j el c u a1 a2 a3 => (h4 i j el c u a1 a2 a3).mono hF hFF, h5⟩
      obtain ⟨q1, q2⟩ := h2
      refine ⟨q1, q2.imp id ?_⟩
      rintro ⟨g, cap, cur, rfl, q3, q4, q5⟩
      exact ⟨g, cap, cur, rfl, q3, (hk g (by rw [h1]; exact rfl)).trans q4, q5⟩
    | raw Q =>
      obtain ⟨k, o, h1, h2, h4⟩ := h
      exact ⟨k, o, hr.trans h1, (hk k (by rw [h1]; exact rfl)).trans h2, h4⟩
    | iter Q =>
      obtain ⟨k, o, b, ob, h1, h2, h3, h4, h5⟩ := h
      exact ⟨k, o, b, ob, hr.trans h1, (hk k (by rw [h1]; exact rfl)).trans h2, hFF _ h3, (hF _ h3).trans h4, h5⟩

end Go.Abs
