/-
  AN ABSTRACT MEMORY FOR ONE CALL: pure values, named blocks of the call's own, read-only data; what it means of a world of the model. No program in sight.
-/
import Derived.WalkKit
import Derived.Below
import Derived.Laws.AppendOwn
import Derived.Laws.Rows
import Derived.Laws.Tables
import Derived.Laws.CopyRow
import Derived.Orders
set_option linter.unusedVariables false
set_option linter.unusedSimpArgs false
namespace Go.Abs
open Go.RowKit

/-- Names of the call's own blocks. -/
inductive Nm where
  | loc (t : Nat)
  | can (k : Nat)
  | out (i : Nat)
  | arg (i : Nat)
  deriving DecidableEq

/-- One cell of what is only read. -/
inductive PV where
  | val (v : Value)
  | ro (sz : Nat) (es : List (List PV))
  | nilS (sz : Nat)
  | opq (Q : World → (Nat → Prop) → Value → Prop)

/-- A value, as a slot or a variable holds it. -/
inductive AV where
  | pv (p : PV)
  | agg (l : List AV)
  | tup (l : List AV)
  | own (r : Nm)
  | ptr (r : Nm) (off : Nat)
  | ept (r : Nm) (sz i f : Nat)
  | rop (cs : List PV)
  | fn (f : Fn) (first caps : List AV)
  | hmap (r : Nm)
  | rom (Q : Obj → Prop)
  | opq (Q : World → (Nat → Prop) → Value → Prop)
  | any

/-- A block of the call's own: a variable; a row of elements; whatever else (a map); what goes through a map that is only read. -/
inductive Blk where
  | box (ty : Nat) (cs : List AV)
  | row (e sz : Nat) (es : List (List PV))
  | raw (Q : Obj → Prop)
  | iter (Q : Nat → Obj → Obj → Prop)
  | gen (Q : World → (Nat → Prop) → Obj → Prop)

/-- Where a named block lies. -/
inductive Hd where
  | dead
  | box (k : Nat)
  | row (v : Value)

def Hd.owns : Hd → Nat → Prop
  | .dead, _ => False
  | .box k, j => k = j
  | .row v, j => v.ownBlock = some j

/-- The names that a value names. -/
def AV.ments : AV → List Nm
  | .pv _ => []
  | .agg l => mentsL l
  | .tup l => mentsL l
  | .own r => [r]
  | .ptr r _ => [r]
  | .ept r _ _ _ => [r]
  | .rop _ => []
  | .fn _ a b => mentsL a ++ mentsL b
  | .hmap r => [r]
  | .rom _ => []
  | .opq _ => []
  | .any => []
where mentsL : List AV → List Nm
  | [] => []
  | x :: l => x.ments ++ mentsL l

def Blk.ments : Blk → List Nm
  | .box _ cs => AV.ments.mentsL cs
  | .row .. => []
  | .raw _ => []
  | .iter _ => []
  | .gen _ => []

/-- A read-only cell, as world w has it; its rows lie in blocks of which F holds. -/
inductive RepP (w : World) (F : Nat → Prop) : PV → Value → Prop where
  | val (v : Value) (h1 : v.oneCell' = true) : RepP w F (.val v) v
  | ro (sz : Nat) (es : List (List PV)) (A : Option Addr) (cap : Nat) (u : Nat → Nat → Value) (hA : A = none → cap = 0) (hc : es.length ≤ cap) (hm : es.length ≤ 9223372036854775807)
      (hl : ∀ (i : Nat) (e : List PV), es[i]? = some e → e.length = sz)
      (ha : es ≠ [] → ∃ ad : Addr, A = some ad ∧ ad.spot = none ∧ F ad.block ∧ ∀ (i j : Nat) (e : List PV) (c : PV), es[i]? = some e → e[j]? = some c → w.cell? (ad.add (i * sz + j)) = some (u i j))
      (hr : ∀ (i j : Nat) (e : List PV) (c : PV), es[i]? = some e → e[j]? = some c → RepP w F c (u i j)) : RepP w F (.ro sz es) (.slice A es.length cap)
  | nilS (sz : Nat) : RepP w F (.nilS sz) (.slice none 0 0)
  | opq (Q : World → (Nat → Prop) → Value → Prop) (v : Value) (h1 : v.oneCell' = true) (h : ∀ (w' : World) (F' : Nat → Prop), (∀ k, F k → w'.heap[k]? = w.heap[k]?) → (∀ k, F k → F' k) → Q w' F' v) : RepP w F (.opq Q) v

theorem RepP.one {w : World} {F : Nat → Prop} {p : PV} {v : Value} (h : RepP w F p v) : v.oneCell' = true := by
  cases h with
  | val _ h1 => exact h1
  | ro => rfl
  | nilS => rfl
  | opq _ _ h1 => exact h1

theorem RepP.mono {w w' : World} {F F' : Nat → Prop} (hw : ∀ k, F k → w'.heap[k]? = w.heap[k]?) (hF : ∀ k, F k → F' k) {p : PV} {v : Value} (h : RepP w F p v) : RepP w' F' p v := by
  induction h with
  | val v h1 => exact .val v h1
  | nilS sz => exact .nilS sz
  | opq Q v h1 h => exact .opq Q v h1 fun w2 F2 e1 e2 => h w2 F2 (fun k hk => (e1 k (hF k hk)).trans (hw k hk)) (fun k hk => e2 k (hF k hk))
  | ro sz es A cap u hA hc hm hl ha hr ih =>
    refine .ro sz es A cap u hA hc hm hl (fun hne => ?_) ih
    obtain ⟨ad, e1, e2, e3, e4⟩ := ha hne
    refine ⟨ad, e1, e2, hF _ e3, fun i j e c h1 h2 => ?_⟩
    rw [← e4 i j e c h1 h2]
    refine World.cell?_of_block (w := w) ?_
    have : (ad.add (i * sz + j)).block = ad.block := by unfold Addr.add; split <;> rfl
    rw [this]
    exact hw _ e3

/-- A value, as world w has it, blocks being where hd says. -/
inductive Rep (w : World) (F : Nat → Prop) (hd : Nm → Hd) : AV → Value → Prop where
  | pv (p : PV) (v : Value) (h : RepP w F p v) : Rep w F hd (.pv p) v
  | agg (l : List AV) (cs : List Value) (hl : cs.length = l.length) (h : ∀ (j : Nat) (c : AV) (v : Value), l[j]? = some c → cs[j]? = some v → Rep w F hd c v) (h1 : ∀ v ∈ cs, v.oneCell' = true) : Rep w F hd (.agg l) (.agg cs.toArray)
  | tup (l : List AV) (cs : List Value) (hl : cs.length = l.length) (h : ∀ (j : Nat) (c : AV) (v : Value), l[j]? = some c → cs[j]? = some v → Rep w F hd c v) : Rep w F hd (.tup l) (.tuple cs.toArray)
  | own (r : Nm) (v : Value) (h1 : v.oneCell' = true) (h : ∀ u, hd r = .row u → v = u) : Rep w F hd (.own r) v
  | ptr (r : Nm) (off : Nat) (v : Value) (h1 : v.oneCell' = true) (h : ∀ k, hd r = .box k → v = .pointer (some ⟨k, off, none⟩)) : Rep w F hd (.ptr r off) v
  | ept (r : Nm) (sz i f : Nat) (v : Value) (h1 : v.oneCell' = true) (h : ∀ g n c, hd r = .row (.slice (some ⟨g, 0, none⟩) n c) → v = .pointer (some ⟨g, i * sz + f, none⟩)) : Rep w F hd (.ept r sz i f) v
  | rop (cs : List PV) (ad : Addr) (u : Nat → Value) (hs : ad.spot = none) (hF : F ad.block) (hc : ∀ (j : Nat) (c : PV), cs[j]? = some c → w.cell? (ad.add j) = some (u j)) (hr : ∀ (j : Nat) (c : PV), cs[j]? = some c → RepP w F c (u j)) : Rep w F hd (.rop cs) (.pointer (some ad))
  | fn (f : Fn) (a b : List AV) (va vb : List Value) (ha : va.length = a.length) (hb : vb.length = b.length) (h : ∀ (j : Nat) (c : AV) (v : Value), a[j]? = some c → va[j]? = some v → Rep w F hd c v) (h' : ∀ (j : Nat) (c : AV) (v : Value), b[j]? = some c → vb[j]? = some v → Rep w F hd c v) : Rep w F hd (.fn f a b) (.func f va.toArray vb.toArray)
  | hmap (r : Nm) (v : Value) (h1 : v.oneCell' = true) (h : ∀ k, hd r = .box k → v = .map (some k)) : Rep w F hd (.hmap r) v
  | rom (Q : Obj → Prop) (k : Nat) (o : Obj) (hF : F k) (ho : w.heap[k]? = some o) (hq : Q o) : Rep w F hd (.rom Q) (.map (some k))
  | opq (Q : World → (Nat → Prop) → Value → Prop) (v : Value) (h1 : v.oneCell' = true) (h : ∀ (w' : World) (F' : Nat → Prop), (∀ k, F k → w'.heap[k]? = w.heap[k]?) → (∀ k, F k → F' k) → Q w' F' v) : Rep w F hd (.opq Q) v
  | any (v : Value) : Rep w F hd .any v

theorem mem_mentsL {r : Nm} {x : AV} : ∀ {l : List AV} {j : Nat}, l[j]? = some x → r ∈ x.ments → r ∈ AV.ments.mentsL l
  | [], _, h, _ => by simp at h
  | y :: l, 0, h, hr => by simp at h; subst h; simp [AV.ments.mentsL, hr]
  | y :: l, j + 1, h, hr => by simp at h; simp [AV.ments.mentsL, mem_mentsL h hr]

theorem Rep.mono {w w' : World} {F F' : Nat → Prop} {hd hd' : Nm → Hd} (hw : ∀ k, F k → w'.heap[k]? = w.heap[k]?) (hF : ∀ k, F k → F' k) {x : AV} {v : Value} (h : Rep w F hd x v)
    (hh : ∀ r, r ∈ x.ments → hd' r = hd r ∨ hd' r = .dead) : Rep w' F' hd' x v := by
  induction h with
  | pv p v h => exact .pv p v (h.mono hw hF)
  | agg l cs hl h h1 ih => exact .agg l cs hl (fun j c v hj hv => ih j c v hj hv fun r hr => hh r (by simp only [AV.ments]; exact mem_mentsL hj hr)) h1
  | tup l cs hl h ih => exact .tup l cs hl (fun j c v hj hv => ih j c v hj hv fun r hr => hh r (by simp only [AV.ments]; exact mem_mentsL hj hr))
  | own r v h1 h =>
    refine .own r v h1 fun u hu => ?_
    rcases hh r (by simp [AV.ments]) with e | e
    · exact h u (e ▸ hu)
    · rw [e] at hu; cases hu
  | ptr r off v h1 h =>
    refine .ptr r off v h1 fun u hu => ?_
    rcases hh r (by simp [AV.ments]) with e | e
    · exact h u (e ▸ hu)
    · rw [e] at hu; cases hu
  | ept r sz i f v h1 h =>
    refine .ept r sz i f v h1 fun g n c hu => ?_
    rcases hh r (by simp [AV.ments]) with e | e
    · exact h g n c (e ▸ hu)
    · rw [e] at hu; cases hu
  | rop cs ad u hs h1 hc hr =>
    refine .rop cs ad u hs (hF _ h1) (fun j c hj => ?_) (fun j c hj => (hr j c hj).mono hw hF)
    rw [← hc j c hj]
    refine World.cell?_of_block (w := w) ?_
    have : (ad.add j).block = ad.block := by unfold Addr.add; split <;> rfl
    rw [this]
    exact hw _ h1
  | fn f a b va vb ha hb h h' ih ih' =>
    exact .fn f a b va vb ha hb (fun j c v hj hv => ih j c v hj hv fun r hr => hh r (by simp only [AV.ments, List.mem_append]; exact .inl (mem_mentsL hj hr)))
      (fun j c v hj hv => ih' j c v hj hv fun r hr => hh r (by simp only [AV.ments, List.mem_append]; exact .inr (mem_mentsL hj hr)))
  | hmap r v h1 h =>
    refine .hmap r v h1 fun u hu => ?_
    rcases hh r (by simp [AV.ments]) with e | e
    · exact h u (e ▸ hu)
    · rw [e] at hu; cases hu
  | rom Q k o h1 ho hq => exact .rom Q k o (hF _ h1) ((hw _ h1).trans ho) hq
  | opq Q v h1 h => exact .opq Q v h1 fun w2 F2 e1 e2 => h w2 F2 (fun k hk => (e1 k (hF k hk)).trans (hw k hk)) (fun k hk => e2 k (hF k hk))
  | any v => exact .any v

/-- What is known: slots and blocks (the first row of a key counts). -/
structure LS where
  σ : List (Nat × AV)
  H : List (Nm × Option Blk)

def lkS : List (Nat × AV) → Nat → AV
  | [], _ => .any
  | (k, v) :: l, t => if k = t then v else lkS l t
def Nm.eqb : Nm → Nm → Bool
  | .loc a, .loc b | .can a, .can b | .out a, .out b | .arg a, .arg b => Nat.beq a b
  | _, _ => false
theorem Nm.eqb_iff (a b : Nm) : a.eqb b = true ↔ a = b := by cases a <;> cases b <;> simp [Nm.eqb, Nat.beq_eq]
def lkH : List (Nm × Option Blk) → Nm → Option Blk
  | [], _ => none
  | (k, v) :: l, r => if k.eqb r = true then v else lkH l r
def setS : List (Nat × AV) → Nat → AV → List (Nat × AV)
  | [], t, v => [(t, v)]
  | (k, u) :: l, t, v => if k = t then (t, v) :: l else (k, u) :: setS l t v
def setH : List (Nm × Option Blk) → Nm → Option Blk → List (Nm × Option Blk)
  | [], r, b => [(r, b)]
  | (k, u) :: l, r, b => if k.eqb r = true then (r, b) :: l else (k, u) :: setH l r b
theorem lkS_setS (l : List (Nat × AV)) (t : Nat) (v : AV) (s : Nat) : lkS (setS l t v) s = if s = t then v else lkS l s := by
  induction l with
  | nil =>
    by_cases h : t = s
    · subst h; simp [setS, lkS]
    · have h' : ¬ s = t := fun e => h e.symm
      simp [setS, lkS, h, h']
  | cons x l ih =>
    obtain ⟨k, u⟩ := x
    by_cases h : k = t
    · subst h
      by_cases hs : k = s
      · subst hs; simp [setS, lkS]
      · have h' : ¬ s = k := fun e => hs e.symm
        simp [setS, lkS, hs, h']
    · simp only [setS, lkS, h, if_false, ih]
      by_cases hs : k = s
      · subst hs; simp [h]
      · simp [hs]
theorem lkH_setH (l : List (Nm × Option Blk)) (t : Nm) (v : Option Blk) (s : Nm) : lkH (setH l t v) s = if s = t then v else lkH l s := by
  induction l with
  | nil =>
    by_cases h : t = s
    · subst h; simp [setH, lkH, Nm.eqb_iff]
    · have h' : ¬ s = t := fun e => h e.symm
      simp [setH, lkH, Nm.eqb_iff, h, h']
  | cons x l ih =>
    obtain ⟨k, u⟩ := x
    by_cases h : k = t
    · subst h
      by_cases hs : k = s
      · subst hs; simp [setH, lkH, Nm.eqb_iff]
      · have h' : ¬ s = k := fun e => hs e.symm
        simp [setH, lkH, Nm.eqb_iff, hs, h']
    · simp only [setH, lkH, Nm.eqb_iff, h, if_false, ih]
      by_cases hs : k = s
      · subst hs; simp [h]
      · simp [hs]

def LS.get (L : LS) (t : Nat) : AV := lkS L.σ t
def LS.blk (L : LS) (r : Nm) : Option Blk := lkH L.H r
def LS.put (L : LS) (d : Option Nat) (v : AV) : LS := match d with
  | some d => { L with σ := setS L.σ d v }
  | none => L
def LS.upd (L : LS) : List (Nm × Option Blk) → LS
  | [] => L
  | (r, b) :: ups => LS.upd { L with H := setH L.H r b } ups
/-- Is a name named nowhere? -/
def LS.Fresh (L : LS) (r : Nm) : Prop := (∀ t, r ∉ (L.get t).ments) ∧ ∀ s b, L.blk s = some b → r ∉ b.ments
/-- The same, of lists, to be reckoned. -/
def notIn (r : Nm) : List Nm → Bool
  | [] => true
  | x :: l => if x.eqb r = true then false else notIn r l
theorem notIn_iff (r : Nm) (l : List Nm) : notIn r l = true ↔ r ∉ l := by
  induction l with
  | nil => simp [notIn]
  | cons x l ih =>
    by_cases h : x = r
    · subst h; simp [notIn, Nm.eqb_iff]
    · have h' : ¬ r = x := fun e => h e.symm
      simp [notIn, Nm.eqb_iff, h, ih, h']
def LS.freshB (L : LS) (r : Nm) : Bool := go L.σ && goH L.H
where
  go : List (Nat × AV) → Bool
    | [] => true
    | (_, v) :: l => notIn r v.ments && go l
  goH : List (Nm × Option Blk) → Bool
    | [] => true
    | (_, some b) :: l => notIn r b.ments && goH l
    | (_, none) :: l => goH l
theorem LS.fresh_of {L : LS} {r : Nm} (h : L.freshB r = true) : L.Fresh r := by
  simp only [LS.freshB, Bool.and_eq_true] at h
  obtain ⟨h1, h2⟩ := h
  constructor
  · intro t
    unfold LS.get
    generalize L.σ = l at h1
    induction l with
    | nil => simp [lkS, AV.ments]
    | cons x l ih =>
      obtain ⟨k, u⟩ := x
      simp only [LS.freshB.go, Bool.and_eq_true, notIn_iff] at h1
      simp only [lkS]
      split
      · exact h1.1
      · exact ih h1.2
  · intro s b hb
    unfold LS.blk at hb
    generalize L.H = l at h2 hb
    induction l with
    | nil => simp [lkH] at hb
    | cons x l ih =>
      obtain ⟨k, u⟩ := x
      simp only [lkH] at hb
      cases u with
      | none =>
        simp only [LS.freshB.goH] at h2
        split at hb
        · cases hb
        · exact ih h2 hb
      | some c =>
        simp only [LS.freshB.goH, Bool.and_eq_true, notIn_iff] at h2
        split at hb
        · cases hb; exact h2.1
        · exact ih h2.2 hb

/-- What is taken for granted of the memory (the tables of the library); it lies in blocks of which F holds. -/
structure Granted where
  p : World → (Nat → Prop) → Prop
  mono : ∀ {w w' : World} {F F' : Nat → Prop}, p w F → (∀ k, F k → w'.heap[k]? = w.heap[k]?) → (∀ k, F k → F' k) → p w' F'

/-- A call that goes on: the program, the function, the world in which it began; what may be read (F0), the blocks that are handed on (hd0), what is taken for granted (Gl), what must hold in the end. -/
structure Ctx where
  P : Program
  f : FuncId
  fn : Func
  w0 : World
  F0 : Nat → Prop
  hd0 : Nm → Hd
  Gl : Granted
  R : Ending → World → Prop

/-- What the call may write, of what was there. -/
def Ctx.may (C : Ctx) (k : Nat) : Prop := ∃ r, (C.hd0 r).owns k

/-- Where a block lies, and what is in it. -/
def HoldB (w : World) (F : Nat → Prop) (hd : Nm → Hd) (r : Nm) : Option Blk → Prop
  | none => hd r = .dead
  | some (.box ty cs) => ∃ k arr, hd r = .box k ∧ w.heap[k]? = some (.cells arr ty (0, 0)) ∧ arr.size = cs.length ∧ (∀ (j : Nat) (c : AV) (v : Value), cs[j]? = some c → arr[j]? = some v → Rep w F hd c v) ∧ ∀ v ∈ arr.toList, v.oneCell' = true
  | some (.row e sz es) => ∃ v cells, hd r = .row v ∧ w.ownsRow 0 e sz v es.length cells ∧ (∀ (i : Nat) (el : List PV), es[i]? = some el → el.length = sz) ∧ (∀ (i j : Nat) (el : List PV) (c : PV) (u : Value), es[i]? = some el → el[j]? = some c → cells[i * sz + j]? = some u → RepP w F c u) ∧ ∀ v ∈ cells, v.oneCell' = true
  | some (.raw Q) => ∃ k o, hd r = .box k ∧ w.heap[k]? = some o ∧ Q o
  | some (.iter Q) => ∃ k o b ob, hd r = .box k ∧ w.heap[k]? = some o ∧ F b ∧ w.heap[b]? = some ob ∧ Q b ob o
  | some (.gen Q) => ∃ k o, hd r = .box k ∧ w.heap[k]? = some o ∧ ∀ (w' : World) (F' : Nat → Prop), (∀ k, F k → w'.heap[k]? = w.heap[k]?) → (∀ k, F k → F' k) → Q w' F' o

structure Inv (C : Ctx) (L : LS) (hd : Nm → Hd) (F : Nat → Prop) (a : Act) (w : World) : Prop where
  slots : ∀ t, Rep w F hd (L.get t) (a.tmps.getD t undef)
  blocks : ∀ r, HoldB w F hd r (L.blk r)
  sep : ∀ r s k, r ≠ s → (hd r).owns k → ¬ (hd s).owns k
  mine : ∀ r k, (hd r).owns k → ¬ F k ∧ k < w.heap.size ∧ (C.w0.heap.size ≤ k ∨ C.may k)
  fin : ∀ k, F k → k < w.heap.size ∧ (C.F0 k ∨ C.w0.heap.size ≤ k ∨ C.may k)
  more : ∀ k, C.F0 k → F k
  kept : ∀ i, hd (.arg i) = C.hd0 (.arg i) ∨ hd (.arg i) = .dead
  gl : C.Gl.p w F
  os : w.os = C.w0.os
  tape : w.tape = C.w0.tape
  output : w.output = C.w0.output
  size : C.w0.heap.size ≤ w.heap.size
  old : ∀ k, k < C.w0.heap.size → ¬ C.may k → w.heap[k]? = C.w0.heap[k]?
  ntmps : a.tmps.size = C.fn.ntmps
  defers : a.defers = []

theorem HoldB.mono {w w' : World} {F F' : Nat → Prop} {hd hd' : Nm → Hd} {r : Nm} {b : Option Blk} (h : HoldB w F hd r b) (hF : ∀ k, F k → w'.heap[k]? = w.heap[k]?) (hFF : ∀ k, F k → F' k) (hr : hd' r = hd r) (hk : ∀ k, (hd r).owns k → w'.heap[k]? = w.heap[k]?)
    (hm : ∀ c, b = some c → ∀ s, s ∈ c.ments → hd' s = hd s ∨ hd' s = .dead) : HoldB w' F' hd' r b := by
  cases b with
  | none => exact hr.trans h
  | some b =>
    cases b with
    | box ty cs =>
      obtain ⟨k, arr, h1, h2, h3, h4, h5⟩ := h
      refine ⟨k, arr, hr.trans h1, (hk k (by rw [h1]; exact rfl)).trans h2, h3, fun j c v hj hv => (h4 j c v hj hv).mono hF hFF fun s hs => hm _ rfl s ?_, h5⟩
      simp only [Blk.ments]
      exact mem_mentsL hj hs
    | row e sz es =>
      obtain ⟨v, cells, h1, h2, h3, h4, h5⟩ := h
      refine ⟨v, cells, hr.trans h1, ?_, h3, fun i j el c u a1 a2 a3 => (h4 i j el c u a1 a2 a3).mono hF hFF, h5⟩
      obtain ⟨q1, q2⟩ := h2
      refine ⟨q1, q2.imp id ?_⟩
      rintro ⟨g, cap, cur, rfl, q3, q4, q5⟩
      exact ⟨g, cap, cur, rfl, q3, (hk g (by rw [h1]; exact rfl)).trans q4, q5⟩
    | raw Q =>
      obtain ⟨k, o, h1, h2, h4⟩ := h
      exact ⟨k, o, hr.trans h1, (hk k (by rw [h1]; exact rfl)).trans h2, h4⟩
    | iter Q =>
      obtain ⟨k, o, b, ob, h1, h2, h3, h4, h5⟩ := h
      exact ⟨k, o, b, ob, hr.trans h1, (hk k (by rw [h1]; exact rfl)).trans h2, hFF _ h3, (hF _ h3).trans h4, h5⟩
    | gen Q =>
      obtain ⟨k, o, h1, h2, h4⟩ := h
      exact ⟨k, o, hr.trans h1, (hk k (by rw [h1]; exact rfl)).trans h2, fun w2 F2 e1 e2 => h4 w2 F2 (fun k hk => (e1 k (hFF k hk)).trans (hF k hk)) (fun k hk => e2 k (hFF k hk))⟩

end Go.Abs
/-
  REGIONS AND CODE over the abstract memory: what one operation may do, regions in the text's order and in whatever order is drawn, and the rules by which a body is gone through.
-/
set_option linter.unusedVariables false
set_option linter.unusedSimpArgs false
namespace Go.Abs
open Go.RowKit

def LS.ev (L : LS) : Operand → AV
  | .tmp t => L.get t
  | .const v => match v with
    | .slice none 0 0 => .pv (.nilS 0)
    | .agg cs => if cs.toList.all (fun c => c.oneCell') = true then .agg (cs.toList.map fun c => .pv (.val c)) else .any
    | .tuple _ => .any
    | v => .pv (.val v)
  | .global _ => .any
  | .func f => .fn (.func f) [] []

structure Actn where
  v : AV
  ups : List (Nm × Option Blk)

def LS.app (L : LS) (dst : Option Nat) (A : Actn) : LS := (L.upd A.ups).put dst A.v

/-- The names that an action makes. -/
def news (fp : List (Nm × Blk)) (ups : List (Nm × Option Blk)) : List Nm := (ups.map (·.1)).filter fun r => !(fp.any fun p => p.1.eqb r)

/-- What an operation may be taken to do, wherever its operands and its blocks are as told. -/
def Sem1 (C : Ctx) (o : Oper) (ev : Operand → AV) (fp : List (Nm × Blk)) (A : Actn) : Prop :=
  ∀ (L : LS) (hd : Nm → Hd) (F : Nat → Prop) (a : Act) (w : World), (∀ x ∈ o.op.operands.toList, L.ev x = ev x) → (∀ p ∈ fp, L.blk p.1 = some p.2) →
    (∀ r ∈ news fp A.ups, L.blk r = none ∧ L.Fresh r) → Inv C L hd F a w →
    ∀ (K : Act → World → Prop) (Q : Exit → Act → World → Prop), (∀ a' w' hd' F', Inv C (L.app o.dst A) hd' F' a' w' → K a' w') → o.wp C.P a w K Q

/-- Is a guarded operation done? -/
def guardOf (ops : Array Oper) (o : Oper) (L : LS) : Option Bool :=
  match o.guard with
  | none => some true
  | some (j, want) => match (ops[j]?).bind (·.dst) with
    | some d => match L.get d with
      | .pv (.val (.bool b)) => some (b == want)
      | .tup [] => some false
      | _ => none
    | none => none

/-- What an operation that is done has touched: its place, the names that it read, those that it turned. -/
structure Trace where
  i : Nat
  rd : List Nm
  wr : List Nm

def disjoint : List Nm → List Nm → Bool
  | [], _ => true
  | x :: l, b => notIn x b && disjoint l b
theorem disjoint_spec {a b : List Nm} (h : disjoint a b = true) : ∀ r ∈ a, r ∉ b := by
  induction a with
  | nil => simp
  | cons x l ih =>
    simp only [disjoint, Bool.and_eq_true, notIn_iff] at h
    intro r hr
    rcases List.mem_cons.1 hr with rfl | hr
    · exact h.1
    · exact ih h.2 r hr
/-- The names that operations to come may make. -/
def makes : Op → Bool
  | .call c => match c.callee with | .builtin .append => true | .value _ => true | _ => false
  | .buildSlice .. | .makeSlice .. | .alloc .. | .box .. | .makeMap .. | .range .. => true
  | _ => false
def mayMake1 (o : Oper) : List Nm := match o.dst with
  | some d => if makes o.op = true then [.loc d] else []
  | none => []
def mayMake (ops : Array Oper) : List Nat → List Nm
  | [] => []
  | i :: l => match ops[i]? with
    | some o => mayMake1 o ++ mayMake ops l
    | none => mayMake ops l
theorem mayMake_mem {ops : Array Oper} {l : List Nat} {i : Nat} {o : Oper} (hi : i ∈ l) (ho : ops[i]? = some o) {r : Nm} (hr : r ∈ mayMake1 o) : r ∈ mayMake ops l := by
  induction l with
  | nil => cases hi
  | cons k l ih =>
    simp only [mayMake]
    rcases List.mem_cons.1 hi with rfl | hi
    · simp [ho, hr]
    · cases ops[k]? <;> simp [ih hi]
def upsMents : List (Nm × Option Blk) → List Nm
  | [] => []
  | (_, some b) :: l => b.ments ++ upsMents l
  | (_, none) :: l => upsMents l
/-- Is an operation held behind another one, at one remove or at two? -/
def boundB (o : Oper) (k : Nat) : Bool := o.after.any fun e => e.on == k && Region.binds .any e
def boundC (ops : Array Oper) (o : Oper) (k : Nat) : Bool := if boundB o k = true then true else o.after.any fun e => Region.binds .any e && match ops[e.on]? with
  | some p => boundB p k
  | none => false
/-- May two operations, the first of them ahead in the text, be exchanged, or is the second held behind the first? -/
def pairOk (ops : Array Oper) (x : Trace) (o : Oper) (y : Trace) (vm : List Nm) : Bool :=
  if ((o.after.any fun e => e.on == x.i && Region.binds .any e) || match ops[x.i]? with
  | some p => Oper.apart ops p o && disjoint x.wr (y.rd ++ y.wr) && disjoint y.wr x.rd && disjoint (mayMake1 p) vm
  | none => false) = true then true else boundC ops o x.i

/-- One operation of a region: done, or passed over. -/
def Step1 (C : Ctx) (ops : Array Oper) (i : Nat) (o : Oper) (L L1 : LS) (y : Trace) (vm : List Nm) : Prop :=
  (guardOf ops o L = some true ∧ ∃ fp A, Sem1 C o L.ev fp A ∧ (∀ p ∈ fp, L.blk p.1 = some p.2) ∧ (∀ r ∈ news fp A.ups, L.blk r = none ∧ L.Fresh r ∧ r ∈ mayMake1 o) ∧
    L1 = L.app o.dst A ∧ y = ⟨i, fp.map (·.1), A.ups.map (·.1)⟩ ∧ vm = A.v.ments ++ upsMents A.ups) ∨
  (guardOf ops o L = some false ∧ L1 = L.put o.dst (.tup []) ∧ y = ⟨i, [], []⟩ ∧ vm = [])

/-- One operation, done, that may come to more than one state. -/
def StepN (C : Ctx) (ops : Array Oper) (o : Oper) (L : LS) (S : LS → Prop) : Prop :=
  guardOf ops o L = some true ∧ ∀ hd F a w, Inv C L hd F a w → ∀ (K : Act → World → Prop) (Q : Exit → Act → World → Prop), (∀ L' a' w' hd' F', S L' → Inv C L' hd' F' a' w' → K a' w') → o.wp C.P a w K Q

/-- The rest of a region, in the text's order. -/
def RT (C : Ctx) (ops : Array Oper) (draw : Bool) : List Nat → List Trace → LS → (LS → Prop) → Prop
  | [], _, L, K => K L
  | i :: rest, done, L, K => (∃ o L1 y vm, ops[i]? = some o ∧ Step1 C ops i o L L1 y vm ∧
      (draw = true → (done.all fun x => pairOk ops x o y vm) = true ∧ disjoint (mayMake ops rest) vm = true) ∧ RT C ops draw rest (y :: done) L1 K) ∨
      (draw = false ∧ ∃ o S, ops[i]? = some o ∧ StepN C ops o L S ∧ ∀ L1, S L1 → RT C ops draw rest [] L1 K)
theorem rt_true {C : Ctx} {ops : Array Oper} {i : Nat} {rest : List Nat} {done : List Trace} {L : LS} {K : LS → Prop} : RT C ops true (i :: rest) done L K ↔ ∃ o L1 y vm, ops[i]? = some o ∧ Step1 C ops i o L L1 y vm ∧
    ((done.all fun x => pairOk ops x o y vm) = true ∧ disjoint (mayMake ops rest) vm = true) ∧ RT C ops true rest (y :: done) L1 K := by
  simp [RT]

theorem upd_blk (ups : List (Nm × Option Blk)) : ∀ (L : LS), (L.upd ups).σ = L.σ := by
  induction ups with
  | nil => intro L; rfl
  | cons x l ih => intro L; obtain ⟨r, b⟩ := x; simp only [LS.upd, ih]

theorem Inv.put_undef {C : Ctx} {L : LS} {hd : Nm → Hd} {F : Nat → Prop} {a : Act} {w : World} (h : Inv C L hd F a w) (d : Option Nat) : Inv C (L.put d (.tup [])) hd F (a.put d undef) w := by
  cases d with
  | none => exact h
  | some d =>
    refine { h with slots := fun t => ?_, blocks := h.blocks, ntmps := by simp [Act.put, h.ntmps], defers := h.defers }
    simp only [LS.put, LS.get, lkS_setS]
    split
    · rename_i e
      subst e
      have : (a.put (some t) undef).tmps.getD t undef = undef := by
        simp only [Act.put, Array.getD_eq_getD_getElem?]
        by_cases ht : t < a.tmps.size
        · simp [ht]
        · rw [Array.getElem?_eq_none (by simpa using ht)]; rfl
      rw [this]
      exact .tup [] [] rfl (fun j c v h => by simp at h)
    · rename_i hne
      have := h.slots t
      simp only [LS.get] at this
      simpa [Act.put, Array.getD_eq_getD_getElem?, Array.getElem?_setIfInBounds_ne (fun e : d = t => hne e.symm)] using this

/-- A slot is written. -/
theorem Inv.put {C : Ctx} {L : LS} {hd : Nm → Hd} {F : Nat → Prop} {a : Act} {w : World} (h : Inv C L hd F a w) (d : Option Nat) {x : AV} {v : Value} (hx : Rep w F hd x v) (hd' : ∀ k, d = some k → k < C.fn.ntmps) : Inv C (L.put d x) hd F (a.put d v) w := by
  cases d with
  | none => exact h
  | some d =>
    refine { h with slots := fun t => ?_, blocks := h.blocks, ntmps := by simp [Act.put, h.ntmps], defers := h.defers }
    simp only [LS.put, LS.get, lkS_setS]
    split
    · rename_i he
      subst he
      have : t < a.tmps.size := by rw [h.ntmps]; exact hd' t rfl
      simpa [Act.put, Array.getD_eq_getD_getElem?, this] using hx
    · rename_i hne
      have := h.slots t
      simp only [LS.get] at this
      simpa [Act.put, Array.getD_eq_getD_getElem?, Array.getElem?_setIfInBounds_ne (fun e : d = t => hne e.symm)] using this

theorem guard_true {C : Ctx} {ops : Array Oper} {o : Oper} {L : LS} {hd : Nm → Hd} {F : Nat → Prop} {a : Act} {w : World} (h : Inv C L hd F a w) {b : Bool} (hg : guardOf ops o L = some b) : Region.wanted o (yielded ops a.tmps) = b := by
  unfold guardOf at hg
  unfold Region.wanted
  cases hq : o.guard with
  | none => simp [hq] at hg ⊢; exact hg.symm ▸ rfl
  | some x =>
    obtain ⟨j, want⟩ := x
    simp only [hq] at hg ⊢
    cases hj : (ops[j]?).bind (·.dst) with
    | none => simp [hj] at hg
    | some d =>
      simp only [hj] at hg
      have hs := h.slots d
      generalize L.get d = x at hg hs
      cases x with
      | pv p =>
        cases p with
        | val v =>
          cases v <;> simp at hg
          rename_i c
          cases hs with
          | pv _ _ hp =>
            generalize hz : a.tmps.getD d undef = z at hp
            cases hp with
            | val =>
              cases ho : ops[j]? with
              | none => simp [ho] at hj
              | some p =>
                simp only [ho, Option.bind_some] at hj
                have hz' : a.tmps[d]? = some (.bool c) := by
                  rw [Array.getD_eq_getD_getElem?] at hz
                  cases ht : a.tmps[d]? with
                  | none => rw [ht] at hz; cases hz
                  | some y => rw [ht] at hz; exact congrArg some hz
                have : yielded ops a.tmps j = some c := by simp [yielded, ho, hj, hz']
                rw [this]
                subst hg
                cases c <;> cases want <;> rfl
        | ro => simp at hg
        | nilS => simp at hg
        | opq => simp at hg
      | tup l =>
        cases l with
        | cons => simp at hg
        | nil =>
          simp only [Option.some.injEq] at hg
          subst hg
          generalize hz : a.tmps.getD d undef = z at hs
          cases hs with
          | tup _ cs hl _ =>
            have hcs : cs = [] := List.eq_nil_of_length_eq_zero hl
            subst hcs
            have : yielded ops a.tmps j = none := by
              unfold yielded
              cases ho : ops[j]? with
              | none => rfl
              | some p =>
                rw [ho] at hj
                simp only [Option.bind_some] at hj
                simp only [Option.bind_some, hj]
                rw [Array.getD_eq_getD_getElem?] at hz
                cases ht : a.tmps[d]? with
                | none => rfl
                | some y => rw [ht] at hz; simp only [Option.getD_some] at hz; subst hz; rfl
            rw [this]
            rfl
      | _ => simp at hg

theorem step1_wp {C : Ctx} {ops : Array Oper} {i : Nat} {o : Oper} {L L1 : LS} {y : Trace} {vm : List Nm} (ho : ops[i]? = some o) (h : Step1 C ops i o L L1 y vm) {hd : Nm → Hd} {F : Nat → Prop} {a : Act} {w : World} (hi : Inv C L hd F a w)
    (K : Act → World → Prop) (Q : Exit → Act → World → Prop) (hK : ∀ hd' F' a' w', Inv C L1 hd' F' a' w' → K a' w') :
    if Region.wanted o (yielded ops a.tmps) then o.wp C.P a w K Q ∨ (o.asks C.P a w ∧ LetsOut Q) else K (a.put o.dst undef) w := by
  rcases h with ⟨hg, fp, A, h1, h2, h3, rfl, _, _⟩ | ⟨hg, rfl, _, _⟩
  · rw [guard_true hi hg]
    exact .inl (h1 L hd F a w (fun _ _ => rfl) h2 (fun r hr => ⟨(h3 r hr).1, (h3 r hr).2.1⟩) hi K Q fun a' w' hd' F' hi' => hK hd' F' a' w' hi')
  · rw [guard_true hi hg]
    exact hK hd F _ w (hi.put_undef o.dst)

theorem rt_text {C : Ctx} {ops : Array Oper} {draw : Bool} {Q : Exit → Act → World → Prop} : ∀ (l : List Nat) (done : List Trace) (L : LS) (K : LS → Prop) (hd : Nm → Hd) (F : Nat → Prop) (a : Act) (w : World),
    RT C ops draw l done L K → Inv C L hd F a w → (∀ L' hd' F' a' w', K L' → Inv C L' hd' F' a' w' → Q .normal a' w') → wpOps C.P ops Q l a w
  | [], done, L, K, hd, F, a, w, h, hi, hq => by simpa [wpOps] using hq L hd F a w h hi
  | i :: rest, done, L, K, hd, F, a, w, h, hi, hq => by
    rcases h with ⟨o, L1, y, vm, ho, hs, _, hr⟩ | ⟨_, o, S, ho, ⟨hg, hs⟩, hr⟩
    · simp only [wpOps, ho]
      exact step1_wp ho hs hi _ Q fun hd' F' a' w' hi' => rt_text rest _ L1 K hd' F' a' w' hr hi' hq
    · simp only [wpOps, ho]
      rw [guard_true hi hg]
      exact .inl (hs hd F a w hi _ Q fun L' a' w' hd' F' hS hi' => rt_text rest _ L' K hd' F' a' w' (hr L' hS) hi' hq)

/-! ### whatever order is drawn -/
def LS.like (L M : LS) : Prop := (∀ t, L.get t = M.get t) ∧ ∀ r, L.blk r = M.blk r
theorem LS.like.refl (L : LS) : L.like L := ⟨fun _ => rfl, fun _ => rfl⟩
theorem LS.like.symm {L M : LS} (h : L.like M) : M.like L := ⟨fun t => (h.1 t).symm, fun r => (h.2 r).symm⟩
theorem LS.like.trans {L M N : LS} (h : L.like M) (k : M.like N) : L.like N := ⟨fun t => (h.1 t).trans (k.1 t), fun r => (h.2 r).trans (k.2 r)⟩
theorem LS.like.ev {L M : LS} (h : L.like M) : L.ev = M.ev := by
  funext x
  cases x <;> simp [LS.ev, h.1]
theorem LS.like.fresh {L M : LS} (h : L.like M) {r : Nm} (hf : L.Fresh r) : M.Fresh r := ⟨fun t => by rw [← h.1 t]; exact hf.1 t, fun s b hb => hf.2 s b (by rw [h.2 s]; exact hb)⟩
theorem Inv.like {C : Ctx} {L M : LS} (h : L.like M) {hd : Nm → Hd} {F : Nat → Prop} {a : Act} {w : World} (hi : Inv C L hd F a w) : Inv C M hd F a w :=
  { hi with slots := fun t => by rw [← h.1 t]; exact hi.slots t, blocks := fun r => by rw [← h.2 r]; exact hi.blocks r, ntmps := hi.ntmps, defers := hi.defers }
def upsGet : List (Nm × Option Blk) → Nm → Option (Option Blk)
  | [], _ => none
  | (k, b) :: l, r => match upsGet l r with
    | some x => some x
    | none => if k = r then some b else none
theorem upd_get (ups : List (Nm × Option Blk)) : ∀ (L : LS) (r : Nm), (L.upd ups).blk r = (upsGet ups r).getD (L.blk r) := by
  induction ups with
  | nil => intro L r; rfl
  | cons x l ih =>
    intro L r
    obtain ⟨k, b⟩ := x
    simp only [LS.upd, ih, upsGet]
    cases h : upsGet l r with
    | some y => simp
    | none =>
      simp only [Option.getD_none, LS.blk, lkH_setH]
      by_cases hk : k = r
      · subst hk; simp
      · have : ¬ r = k := fun e => hk e.symm
        simp [hk, this]
theorem upsGet_none {ups : List (Nm × Option Blk)} {r : Nm} (h : r ∉ ups.map (·.1)) : upsGet ups r = none := by
  induction ups with
  | nil => rfl
  | cons x l ih =>
    obtain ⟨k, b⟩ := x
    simp only [List.map_cons, List.mem_cons, not_or] at h
    have h' : ¬ k = r := fun e => h.1 e.symm
    simp [upsGet, ih h.2, h']
theorem app_get (L : LS) (d : Option Nat) (A : Actn) (t : Nat) : (L.app d A).get t = if d = some t then A.v else L.get t := by
  unfold LS.app LS.get
  cases d with
  | none => simp [LS.put, upd_blk]
  | some d =>
    simp only [LS.put, lkS_setS, upd_blk, Option.some.injEq]
    by_cases h : t = d
    · subst h; simp
    · have : ¬ d = t := fun e => h e.symm
      simp [h, this]
theorem app_blk (L : LS) (d : Option Nat) (A : Actn) (r : Nm) : (L.app d A).blk r = (upsGet A.ups r).getD (L.blk r) := by
  unfold LS.app
  cases d <;> simp [LS.put, LS.blk] <;> exact upd_get A.ups L r
theorem put_get (L : LS) (d : Option Nat) (x : AV) (t : Nat) : (L.put d x).get t = if d = some t then x else L.get t := by
  have := app_get L d ⟨x, []⟩ t
  exact this
theorem put_blk (L : LS) (d : Option Nat) (x : AV) (r : Nm) : (L.put d x).blk r = L.blk r := by cases d <;> rfl
theorem upsGet_ments {ups : List (Nm × Option Blk)} {s : Nm} {b : Blk} (h : upsGet ups s = some (some b)) {r : Nm} (hr : r ∈ b.ments) : r ∈ upsMents ups := by
  induction ups with
  | nil => cases h
  | cons x l ih =>
    obtain ⟨k, c⟩ := x
    simp only [upsGet] at h
    cases hl : upsGet l s with
    | some y =>
      rw [hl] at h
      obtain rfl : y = some b := Option.some.inj h
      cases c <;> simp [upsMents, ih hl]
    | none =>
      rw [hl] at h
      by_cases hk : k = s
      · simp only [hk, if_true] at h
        obtain rfl : c = some b := Option.some.inj h
        simp [upsMents, hr]
      · simp [hk] at h
theorem fresh_app {L : LS} {r : Nm} (h : L.Fresh r) (d : Option Nat) (A : Actn) (hv : r ∉ A.v.ments ++ upsMents A.ups) : (L.app d A).Fresh r := by
  rw [List.mem_append, not_or] at hv
  constructor
  · intro t
    rw [app_get]
    split
    · exact hv.1
    · exact h.1 t
  · intro s b hb
    rw [app_blk] at hb
    cases hu : upsGet A.ups s with
    | none => rw [hu] at hb; exact h.2 s b hb
    | some y =>
      rw [hu] at hb
      simp only [Option.getD_some] at hb
      subst hb
      exact fun hr => hv.2 (upsGet_ments hu hr)
theorem fresh_step {C : Ctx} {ops : Array Oper} {i : Nat} {o : Oper} {L L1 : LS} {y : Trace} {vm : List Nm} (h : Step1 C ops i o L L1 y vm) {r : Nm} (hf : L.Fresh r) (hv : r ∉ vm) : L1.Fresh r := by
  rcases h with ⟨_, fp, A, _, _, _, rfl, _, rfl⟩ | ⟨_, rfl, _, rfl⟩
  · exact fresh_app hf _ _ hv
  · exact fresh_app (A := ⟨.tup [], []⟩) hf _ (by simp [AV.ments, AV.ments.mentsL, upsMents])

theorem guard_congr {ops : Array Oper} {o : Oper} {L M : LS} (h : ∀ d, d ∈ Oper.looksAt ops o → L.get d = M.get d) : guardOf ops o L = guardOf ops o M := by
  unfold guardOf
  cases hg : o.guard with
  | none => rfl
  | some x =>
    obtain ⟨j, want⟩ := x
    dsimp only
    cases hj : (ops[j]?).bind (·.dst) with
    | none => rfl
    | some d =>
      dsimp only
      rw [h d (by simp [Oper.looksAt, hg, hj])]
theorem sem1_ev {C : Ctx} {o : Oper} {ev ev' : Operand → AV} {fp : List (Nm × Blk)} {A : Actn} (h : Sem1 C o ev fp A) (he : ∀ x ∈ o.op.operands.toList, ev' x = ev x) : Sem1 C o ev' fp A :=
  fun L hd F a w h1 h2 h3 hi K Q hK => h L hd F a w (fun x hx => (h1 x hx).trans (he x hx)) h2 h3 hi K Q hK
theorem ev_congr {ops : Array Oper} {o : Oper} {L M : LS} (h : ∀ d, d ∈ Oper.looksAt ops o → L.get d = M.get d) : ∀ x ∈ o.op.operands.toList, L.ev x = M.ev x := by
  intro x hx
  cases x with
  | tmp t => exact h t (by simp only [Oper.looksAt, List.mem_append, List.mem_filterMap]; exact .inl ⟨_, hx, rfl⟩)
  | _ => rfl

/-- A step at a state that differs elsewhere alone. -/
theorem step1_move {C : Ctx} {ops : Array Oper} {i : Nat} {o : Oper} {L L1 M : LS} {y : Trace} {vm : List Nm} (h : Step1 C ops i o L L1 y vm) (hs : ∀ d, d ∈ Oper.looksAt ops o → M.get d = L.get d)
    (hb : ∀ r, r ∈ y.rd ∨ r ∈ y.wr → M.blk r = L.blk r) (hf : ∀ r, r ∈ mayMake1 o → r ∈ y.wr → L.Fresh r → M.Fresh r) :
    ∃ M1, Step1 C ops i o M M1 y vm ∧ (∀ t, o.dst = some t → M1.get t = L1.get t) ∧ (∀ t, o.dst ≠ some t → M1.get t = M.get t) ∧ (∀ r, r ∈ y.wr → M1.blk r = L1.blk r) ∧ ∀ r, r ∉ y.wr → M1.blk r = M.blk r := by
  rcases h with ⟨hg, fp, A, h1, h2, h3, rfl, rfl, rfl⟩ | ⟨hg, rfl, rfl, rfl⟩
  · refine ⟨M.app o.dst A, .inl ⟨(guard_congr hs).trans hg, fp, A, sem1_ev h1 (ev_congr hs), fun p hp => ?_, fun r hr => ?_, rfl, rfl, rfl⟩, ?_, ?_, ?_, ?_⟩
    · rw [hb p.1 (.inl (List.mem_map.2 ⟨p, hp, rfl⟩))]; exact h2 p hp
    · have hw : r ∈ A.ups.map (·.1) := (List.mem_filter.1 hr).1
      exact ⟨by rw [hb r (.inr hw)]; exact (h3 r hr).1, hf r (h3 r hr).2.2 hw (h3 r hr).2.1, (h3 r hr).2.2⟩
    · intro t ht; rw [app_get, app_get, if_pos ht, if_pos ht]
    · intro t ht; rw [app_get, if_neg ht]
    · intro r hr
      rw [app_blk, app_blk, hb r (.inr hr)]
    · intro r hr; rw [app_blk, upsGet_none hr]; rfl
  · refine ⟨M.put o.dst (.tup []), .inr ⟨(guard_congr hs).trans hg, rfl, rfl, rfl⟩, ?_, ?_, ?_, ?_⟩
    · intro t ht; rw [put_get, put_get, if_pos ht, if_pos ht]
    · intro t ht; rw [put_get, if_neg ht]
    · intro r hr; cases hr
    · intro r _; rw [put_blk]
theorem step1_frame {C : Ctx} {ops : Array Oper} {i : Nat} {o : Oper} {L L1 : LS} {y : Trace} {vm : List Nm} (h : Step1 C ops i o L L1 y vm) : (∀ t, o.dst ≠ some t → L1.get t = L.get t) ∧ ∀ r, r ∉ y.wr → L1.blk r = L.blk r := by
  rcases h with ⟨_, fp, A, _, _, _, rfl, rfl, _⟩ | ⟨_, rfl, rfl, _⟩
  · exact ⟨fun t ht => by rw [app_get, if_neg ht], fun r hr => by rw [app_blk, upsGet_none hr]; rfl⟩
  · exact ⟨fun t ht => by rw [put_get, if_neg ht], fun r _ => by rw [put_blk]⟩

theorem rt_like {C : Ctx} {ops : Array Oper} {K : LS → Prop} (hK : ∀ L M, L.like M → K L → K M) : ∀ (l : List Nat) (done : List Trace) (L M : LS), RT C ops true l done L K → L.like M → RT C ops true l done M K
  | [], _, L, M, h, hl => hK L M hl h
  | i :: rest, done, L, M, h, hl => by
    obtain ⟨o, L1, y, vm, ho, hs, hd, hr⟩ := rt_true.1 h
    obtain ⟨M1, k1, k2, k3, k4, k5⟩ := step1_move hs (M := M) (fun d _ => (hl.1 d).symm) (fun r _ => (hl.2 r).symm) (fun r _ _ hf => hl.fresh hf)
    obtain ⟨j1, j2⟩ := step1_frame hs
    refine rt_true.2 ⟨o, M1, y, vm, ho, k1, hd, rt_like hK rest _ L1 M1 hr ⟨fun t => ?_, fun r => ?_⟩⟩
    · by_cases ht : o.dst = some t
      · exact (k2 t ht).symm
      · rw [k3 t ht, j1 t ht]; exact hl.1 t
    · by_cases hr : r ∈ y.wr
      · exact (k4 r hr).symm
      · rw [k5 r hr, j2 r hr]; exact hl.2 r

theorem rt_done {C : Ctx} {ops : Array Oper} {K : LS → Prop} : ∀ (l : List Nat) (done done' : List Trace) (L : LS), RT C ops true l done L K → (∀ x ∈ done', x ∈ done) → RT C ops true l done' L K
  | [], _, _, _, h, _ => h
  | i :: rest, done, done', L, h, hs => by
    obtain ⟨o, L1, y, vm, ho, h1, hd, hr⟩ := rt_true.1 h
    refine rt_true.2 ⟨o, L1, y, vm, ho, h1, ⟨?_, hd.2⟩, rt_done rest (y :: done) (y :: done') L1 hr (fun x hx => ?_)⟩
    · rw [List.all_eq_true]
      exact fun x hx => List.all_eq_true.1 hd.1 x (hs x hx)
    · rcases List.mem_cons.1 hx with rfl | hx
      · exact List.mem_cons_self
      · exact List.mem_cons_of_mem _ (hs x hx)
theorem disjoint_of {a b : List Nm} (h : ∀ r ∈ a, r ∉ b) : disjoint a b = true := by
  induction a with
  | nil => rfl
  | cons x l ih =>
    simp only [disjoint, Bool.and_eq_true, notIn_iff]
    exact ⟨h x (by simp), ih fun r hr => h r (by simp [hr])⟩
theorem mayMake_sub {ops : Array Oper} {l l' : List Nat} (h : ∀ i ∈ l, i ∈ l') : ∀ r ∈ mayMake ops l, r ∈ mayMake ops l' := by
  induction l with
  | nil => intro r hr; cases hr
  | cons k l ih =>
    intro r hr
    simp only [mayMake] at hr
    cases hk : ops[k]? with
    | none => rw [hk] at hr; exact ih (fun i hi => h i (by simp [hi])) r hr
    | some o =>
      rw [hk] at hr
      rcases List.mem_append.1 hr with hr | hr
      · exact mayMake_mem (h k (by simp)) hk hr
      · exact ih (fun i hi => h i (by simp [hi])) r hr

/-- What is ready ahead of others that it doesn't hang on may be done first. -/
theorem rt_front {C : Ctx} {ops : Array Oper} {K : LS → Prop} (hK : ∀ L M, L.like M → K L → K M) (i : Nat) (o : Oper) (ho : ops[i]? = some o) (l2 : List Nat) : ∀ (l1 : List Nat) (done : List Trace) (L : LS),
    RT C ops true (l1 ++ i :: l2) done L K → (∀ j ∈ l1, ¬ boundC ops o j = true) → (∀ r ∈ mayMake ops (l1 ++ i :: l2), L.Fresh r) →
    ∃ L1 y vm, Step1 C ops i o L L1 y vm ∧ (done.all fun x => pairOk ops x o y vm) = true ∧ (∀ r ∈ mayMake ops (l1 ++ l2), r ∉ vm) ∧ RT C ops true (l1 ++ l2) done L1 K
  | [], done, L, h, _, _ => by
    obtain ⟨o', L1, y, vm, ho', hs, hd, hr⟩ := rt_true.1 h
    obtain rfl : o' = o := by rw [ho] at ho'; exact (Option.some.inj ho').symm
    obtain ⟨d1, d2⟩ := hd
    exact ⟨L1, y, vm, hs, d1, disjoint_spec d2, rt_done _ _ _ _ hr (fun x hx => List.mem_cons_of_mem _ hx)⟩
  | j :: l1, done, L, h, hdep, hfr => by
    obtain ⟨p, Lj, x, vj, hp, hsj, hdj, hrj⟩ := rt_true.1 h
    obtain ⟨dj1, dj2⟩ := hdj
    have hfrj : ∀ r ∈ mayMake ops (l1 ++ i :: l2), Lj.Fresh r := fun r hr => fresh_step hsj (hfr r (by
      simp only [List.cons_append, mayMake, hp]; exact List.mem_append.2 (.inr hr))) (disjoint_spec dj2 r hr)
    obtain ⟨Lij, y, vm, hs, hall, hvm, hr⟩ := rt_front hK i o ho l2 l1 (x :: done) Lj hrj (fun k hk => hdep k (List.mem_cons_of_mem _ hk)) hfrj
    simp only [List.all_cons, Bool.and_eq_true] at hall
    obtain ⟨hxy, hall⟩ := hall
    have hxi : x.i = j := by
      rcases hsj with ⟨_, fp, A, _, _, _, _, rfl, _⟩ | ⟨_, _, rfl, _⟩ <;> rfl
    have hno := hdep j (by simp)
    simp only [pairOk, hxi, hp] at hxy
    obtain ⟨⟨⟨a1, a2⟩, a3⟩, a4⟩ : ((Oper.apart ops p o = true ∧ disjoint x.wr (y.rd ++ y.wr) = true) ∧ disjoint y.wr x.rd = true) ∧ disjoint (mayMake1 p) vm = true := by
      split at hxy
      · rename_i e
        rw [Bool.or_eq_true] at e
        rcases e with e | e
        · exact absurd (by unfold boundC boundB; rw [if_pos e]) hno
        · simpa only [Bool.and_eq_true] using e
      · exact absurd hxy hno
    obtain ⟨b1, b2, b3⟩ := Oper.apart_spec a1
    have c2 := disjoint_spec a2
    have c3 := disjoint_spec a3
    have c4 := disjoint_spec a4
    obtain ⟨fj1, fj2⟩ := step1_frame hsj
    obtain ⟨fi1, fi2⟩ := step1_frame hs
    -- the later one first
    obtain ⟨Li, k1, k2, k3, k4, k5⟩ := step1_move hs (M := L) (fun d hd => (fj1 d (fun e => b1 d e hd)).symm) (fun r hr => by
      refine (fj2 r (fun hw => c2 r hw (List.mem_append.2 ?_))).symm
      rcases hr with hr | hr
      · exact .inl hr
      · exact .inr hr) (fun r hr _ _ => hfr r (mayMake_mem (i := i) (by simp) ho hr))
    -- then the earlier one
    obtain ⟨M, m1, m2, m3, m4, m5⟩ := step1_move hsj (M := Li) (fun d hd => k3 d (fun e => b3 d e hd)) (fun r hr => by
      refine k5 r (fun hw => ?_)
      rcases hr with hr | hr
      · exact c3 r hw hr
      · exact c2 r hr (List.mem_append.2 (.inr hw))) (fun r hr _ hf => fresh_step k1 hf (c4 r hr))
    have hlike : Lij.like M := by
      constructor
      · intro t
        by_cases hi : o.dst = some t
        · have hj : p.dst ≠ some t := fun e => b2 t e hi
          rw [m3 t hj, k2 t hi]
        · by_cases hj : p.dst = some t
          · rw [fi1 t hi, m2 t hj]
          · rw [fi1 t hi, fj1 t hj, m3 t hj, k3 t hi]
      · intro r
        by_cases hi : r ∈ y.wr
        · have hj : r ∉ x.wr := fun e => c2 r e (List.mem_append.2 (.inr hi))
          rw [m5 r hj, k4 r hi]
        · by_cases hj : r ∈ x.wr
          · rw [fi2 r hi, m4 r hj]
          · rw [fi2 r hi, fj2 r hj, m5 r hj, k5 r hi]
    refine ⟨Li, y, vm, k1, hall, fun r hr => ?_, rt_true.2 ⟨p, M, x, vj, hp, m1, ⟨?_, ?_⟩, ?_⟩⟩
    · simp only [List.cons_append, mayMake, hp, List.mem_append] at hr
      rcases hr with hr | hr
      · exact c4 r hr
      · exact hvm r hr
    · exact dj1
    · exact disjoint_of fun r hr => disjoint_spec dj2 r (mayMake_sub (l := l1 ++ l2) (l' := l1 ++ i :: l2) (fun k hk => by simp only [List.mem_append, List.mem_cons] at hk ⊢; exact hk.imp id .inr) r hr)
    · exact rt_like hK _ _ _ _ hr hlike

theorem rt_any {C : Ctx} {ops : Array Oper} {Q : Exit → Act → World → Prop} {K : LS → Prop} (hK : ∀ L M, L.like M → K L → K M) (hq : ∀ L' hd' F' a' w', K L' → Inv C L' hd' F' a' w' → Q .normal a' w')
    (htext : ∀ (i : Nat) (o : Oper), ops[i]? = some o → ∀ e ∈ o.after.toList, Region.binds .any e = true → e.on < i) : ∀ (fuel : Nat) (l : List Nat) (listed : Array Bool) (L : LS) (hd : Nm → Hd) (F : Nat → Prop) (a : Act) (w : World),
    l.length ≤ fuel → l.Pairwise (· < ·) → (∀ i, i ∈ l ↔ i < ops.size ∧ listed.getD i true = false) → listed.size = ops.size → (∀ (k : Nat) (ok : Oper), listed.getD k false = true → ops[k]? = some ok → ∀ e ∈ ok.after.toList, Region.binds .any e = true → listed.getD e.on false = true) → RT C ops true l [] L K → (∀ r ∈ mayMake ops l, L.Fresh r) → Inv C L hd F a w →
    wpAny C.P .any ops Q fuel listed a w := by
  have hready : ∀ (l : List Nat) (listed : Array Bool), l.Pairwise (· < ·) → (∀ i, i ∈ l ↔ i < ops.size ∧ listed.getD i true = false) → listed.size = ops.size → ∀ i l', l = i :: l' → i ∈ Region.ready .any ops listed := by
    intro l listed hp hm hsz i l' he
    have hi := (hm i).1 (by simp [he])
    simp only [Region.ready, List.mem_filter, List.mem_range, Bool.and_eq_true, Bool.not_eq_true']
    refine ⟨hi.1, hi.2, ?_⟩
    obtain ⟨o, ho⟩ : ∃ o, ops[i]? = some o := ⟨_, Array.getElem?_eq_getElem hi.1⟩
    rw [ho, Option.map_some, Option.getD_some, ← Array.all_toList, List.all_eq_true]
    intro e he'
    simp only [Bool.or_eq_true, Bool.not_eq_true']
    by_cases hb : Region.binds .any e = true
    · right
      have hlt := htext i o ho e he' hb
      by_cases hl : listed.getD e.on true = false
      · have := (hm e.on).2 ⟨by omega, hl⟩
        rw [he] at this
        rcases List.mem_cons.1 this with h | h
        · omega
        · rw [he] at hp
          have := (List.pairwise_cons.1 hp).1 _ h
          omega
      · rw [Bool.not_eq_false] at hl
        have : e.on < listed.size := by omega
        simpa [Array.getD_eq_getD_getElem?, this] using hl
    · left; simpa using hb
  intro fuel
  induction fuel with
  | zero =>
    intro l listed L hd F a w hl hp hm hsz hcl h hf hi
    have hl0 : l = [] := List.eq_nil_of_length_eq_zero (by omega)
    subst hl0
    refine ⟨?_, hq L hd F a w h hi⟩
    rw [List.eq_nil_iff_forall_not_mem]
    intro i hi'
    simp only [Region.ready, List.mem_filter, List.mem_range, Bool.and_eq_true, Bool.not_eq_true'] at hi'
    exact absurd ((hm i).2 ⟨hi'.1, hi'.2.1⟩) (by simp)
  | succ fuel ih =>
    intro l listed L hd F a w hl hp hm hsz hcl h hf hi
    constructor
    · intro he
      cases l with
      | nil => exact hq L hd F a w h hi
      | cons i l' =>
        have := hready _ listed hp hm hsz i l' rfl
        rw [he] at this
        cases this
    · intro i hi'
      simp only [Region.ready, List.mem_filter, List.mem_range, Bool.and_eq_true, Bool.not_eq_true'] at hi'
      obtain ⟨hlt, hun, hdeps⟩ := hi'
      obtain ⟨o, ho⟩ : ∃ o, ops[i]? = some o := ⟨_, Array.getElem?_eq_getElem hlt⟩
      obtain ⟨l1, l2, rfl⟩ := List.append_of_mem ((hm i).2 ⟨hlt, hun⟩)
      have hdep : ∀ e ∈ o.after.toList, Region.binds .any e = true → listed.getD e.on false = true := fun e he1 he3 => by
        have hdeps := hdeps
        rw [ho, Option.map_some, Option.getD_some, ← Array.all_toList, List.all_eq_true] at hdeps
        have hde := hdeps e he1
        simp only [Bool.or_eq_true, Bool.not_eq_true'] at hde
        rcases hde with h' | h'
        · rw [he3] at h'; cases h'
        · exact h'
      have hun1 : ∀ j ∈ l1, ¬ listed.getD j false = true := fun j hj h' => by
        have hjl := (hm j).1 (by simp [hj])
        have : j < listed.size := by omega
        have h1 := hjl.2
        simp only [Array.getD_eq_getD_getElem?, this, getElem?_pos, Option.getD_some] at h1 h'
        rw [h1] at h'; cases h'
      have hbB : ∀ (q : Oper) (j : Nat), boundB q j = true → ∃ e ∈ q.after.toList, e.on = j ∧ Region.binds .any e = true := fun q j he => by
        rw [boundB, ← Array.any_toList, List.any_eq_true] at he
        obtain ⟨e, he1, he2⟩ := he
        simp only [Bool.and_eq_true, beq_iff_eq] at he2
        exact ⟨e, he1, he2⟩
      obtain ⟨L1, y, vm, hs, _, hvm, hr⟩ := rt_front hK i o ho l2 l1 [] L h (fun j hj he => by
        unfold boundC at he
        split at he
        · rename_i hg
          obtain ⟨e, he1, he2, he3⟩ := hbB o j hg
          exact hun1 j hj (he2 ▸ hdep e he1 he3)
        · rw [← Array.any_toList, List.any_eq_true] at he
          obtain ⟨e, he1, he2⟩ := he
          rw [Bool.and_eq_true] at he2
          obtain ⟨he2, he3⟩ := he2
          have hli := hdep e he1 he2
          split at he3
          · rename_i q hq
            obtain ⟨e', g1, g2, g3⟩ := hbB q j he3
            exact hun1 j hj (g2 ▸ hcl e.on q hli hq e' g1 g3)
          · cases he3) hf
      have hlt' : i < listed.size := by omega
      have hnd : i ∉ l1 ++ l2 := by
        rw [List.pairwise_append] at hp
        intro hmem
        rcases List.mem_append.1 hmem with h' | h'
        · have := hp.2.2 i h' i (by simp); omega
        · have := (List.pairwise_cons.1 hp.2.1).1 i h'; omega
      have hm' : ∀ k, k ∈ l1 ++ l2 ↔ k < ops.size ∧ (listed.setIfInBounds i true).getD k true = false := by
        intro k
        have hk := hm k
        simp only [List.mem_append, List.mem_cons] at hk ⊢
        by_cases hki : k = i
        · subst hki
          have : ¬ (k ∈ l1 ∨ k ∈ l2) := by simpa using hnd
          simp [this, Array.getD_eq_getD_getElem?, hlt']
        · have hik : ¬ i = k := fun e => hki e.symm
          simp only [Array.getD_eq_getD_getElem?, Array.getElem?_setIfInBounds_ne hik] at hk ⊢
          rw [← hk]
          simp [hki]
      have hset : ∀ k, listed.getD k false = true → (listed.setIfInBounds i true).getD k false = true := fun k hk => by
        by_cases hki : k = i
        · subst hki; simp [Array.getD_eq_getD_getElem?, hlt']
        · have hik : ¬ i = k := fun e => hki e.symm
          simpa only [Array.getD_eq_getD_getElem?, Array.getElem?_setIfInBounds_ne hik] using hk
      have hcl' : ∀ (k : Nat) (ok : Oper), (listed.setIfInBounds i true).getD k false = true → ops[k]? = some ok → ∀ e ∈ ok.after.toList, Region.binds .any e = true → (listed.setIfInBounds i true).getD e.on false = true := fun k ok hk hok e he hb => by
        by_cases hki : k = i
        · subst hki
          rw [ho] at hok
          cases hok
          exact hset _ (hdep e he hb)
        · have hik : ¬ i = k := fun e => hki e.symm
          simp only [Array.getD_eq_getD_getElem?, Array.getElem?_setIfInBounds_ne hik] at hk
          exact hset _ (hcl k ok (by simpa only [Array.getD_eq_getD_getElem?] using hk) hok e he hb)
      have hfin : ∀ hd' F' a' w', Inv C L1 hd' F' a' w' → wpAny C.P .any ops Q fuel (listed.setIfInBounds i true) a' w' := fun hd' F' a' w' hi' =>
        ih (l1 ++ l2) _ L1 hd' F' a' w' (by simp at hl ⊢; omega) (by
          rw [List.pairwise_append] at hp ⊢
          refine ⟨hp.1, (List.pairwise_cons.1 hp.2.1).2, fun x hx y hy => hp.2.2 x hx y (by simp [hy])⟩) hm' (by simpa using hsz) hcl' hr
          (fun r hr => fresh_step hs (hf r (mayMake_sub (l := l1 ++ l2) (l' := l1 ++ i :: l2) (fun k hk => by simp only [List.mem_append, List.mem_cons] at hk ⊢; exact hk.imp id .inr) r hr)) (hvm r hr)) hi'
      have := step1_wp ho hs hi (wpAny C.P .any ops Q fuel (listed.setIfInBounds i true)) Q hfin
      simp only [wpOp, ho]
      exact this

end Go.Abs
