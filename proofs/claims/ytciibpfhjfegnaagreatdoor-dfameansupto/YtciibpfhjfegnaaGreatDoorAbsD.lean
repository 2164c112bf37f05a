/-
  A BODY GONE THROUGH: what the types are, how a call ends, the rules by which a body is gone through, and what a call of pure values is.
-/
import Derived.Test.YtciibpfhjfegnaaGreatDoorAbsB
import Derived.Scope
set_option linter.unusedVariables false
set_option linter.unusedSimpArgs false
namespace Go.Abs
open Go.RowKit

/-! ### types -/
inductive TU where
  | str (fs : List (Nat × Nat))
  | slice (e : Nat)
  | int (k : IntKind)
  | string
  | bool
  | other
structure TI where
  agg : Bool
  size : Nat
  bytes : Nat
  zero : List PV
  und : TU
def PV.raw : PV → Value
  | .val v => v
  | .ro _ _ => .slice none 0 0
  | .nilS _ => .slice none 0 0
  | .opq _ => .slice none 0 0
structure TOk1 (P : Program) (t : Nat) (i : TI) : Prop where
  agg : ∀ w, (isAgg t).run P w = .ok i.agg w
  info : ∃ inf z, P.info? t = some inf ∧ inf.size = i.size ∧ inf.bytes = i.bytes ∧ inf.zero = some z ∧ z.cells.toList = i.zero.map PV.raw ∧ i.zero.length = i.size
  zero : ∀ p ∈ i.zero, (∃ v, p = .val v ∧ v.oneCell' = true) ∨ ∃ sz, p = .nilS sz
  one : 0 < i.size
  und : match i.und with
    | .str fs => ∃ d, P.underlying t = some (.struct d) ∧ d.toList.map (fun f => (f.offset, f.type)) = fs
    | .slice e => P.underlying t = some (.slice e)
    | .int k => P.underlying t = some (.int k)
    | .string => P.underlying t = some .string
    | .bool => P.underlying t = some .bool
    | .other => True
abbrev TT := List (Nat × TI)
def lkT : TT → Nat → Option TI
  | [], _ => none
  | (k, i) :: l, t => if k = t then some i else lkT l t
def TOk (P : Program) (T : TT) : Prop := ∀ p ∈ T, TOk1 P p.1 p.2
theorem lkT_ok {P : Program} {T : TT} (h : TOk P T) {t : Nat} {i : TI} (ht : lkT T t = some i) : TOk1 P t i := by
  induction T with
  | nil => cases ht
  | cons x l ih =>
    obtain ⟨k, j⟩ := x
    simp only [lkT] at ht
    split at ht
    · rename_i e
      cases ht
      subst e
      exact h (k, i) (by simp)
    · exact ih (fun p hp => h p (by simp [hp])) ht

/-! ### what is read of a slot -/
theorem ev_rep {C : Ctx} {L : LS} {hd : Nm → Hd} {F : Nat → Prop} {a : Act} {w : World} (h : Inv C L hd F a w) (x : Operand) : Rep w F hd (L.ev x) (a.eval x) := by
  cases x with
  | tmp t => exact h.slots t
  | global g => exact .any _
  | func f => exact .fn (.func f) [] [] [] [] rfl rfl (fun j c v h => by simp at h) (fun j c v h => by simp at h)
  | const v =>
    simp only [LS.ev, Act.eval]
    split
    · exact .pv _ _ (.nilS 0)
    · rename_i cs
      split
      · rename_i hall
        rw [List.all_eq_true] at hall
        have := Rep.agg (w := w) (F := F) (hd := hd) (cs.toList.map fun c => .pv (.val c)) cs.toList (by simp) (fun j c v hj hv => by
          rw [List.getElem?_map, hv] at hj
          cases hj
          exact .pv _ _ (.val _ (hall v (List.mem_of_getElem? hv)))) hall
        simpa using this
      · exact .any _
    · exact .any _
    · rename_i h1 h2 h3
      refine .pv _ _ (.val _ ?_)
      cases v <;> first | rfl | exact absurd rfl (h2 _) | exact absurd rfl (h3 _)

theorem bool_of {w : World} {F : Nat → Prop} {hd : Nm → Hd} {v u : Value} (h : Rep w F hd (.pv (.val u)) v) : v = u := by
  cases h with
  | pv _ _ h => cases h; rfl

/-! ### going through a body -/
def Ctx.b (C : Ctx) : Frame := { (default : Frame) with fn := C.f, kind := .normal }
def GoS (C : Ctx) (todo : List Item) (L : LS) : Prop := ∀ hd F a w, Inv C L hd F a w → ∀ cs, ∃ e w' fr, C.R e w' ∧ Comes C.P (lone (C.b.at a todo) cs w) (lone fr cs w') e ∧ fr.fn = C.f ∧ fr.leaving C.P w' e
theorem GoS.like {C : Ctx} {todo : List Item} (L M : LS) (h : L.like M) (hg : GoS C todo L) : GoS C todo M := fun hd F a w hi => hg hd F a w (hi.like h.symm)
theorem go_one {C : Ctx} {todo todo' : List Item} {L : LS} (hs : ∀ a w cs, step C.P (lone (C.b.at a todo) cs w) = .next (lone (C.b.at a todo') cs w)) (h : GoS C todo' L) : GoS C todo L := by
  intro hd F a w hi cs
  obtain ⟨e, w', fr, h1, h2, h3⟩ := h hd F a w hi cs
  exact ⟨e, w', fr, h1, .of_steps (.one (hs a w cs)) h2, h3⟩
theorem go_skip {C : Ctx} {k : List Item} {L : LS} (h : GoS C k L) : GoS C (.code .skip :: k) L := go_one (fun _ _ _ => step_skip) h
theorem go_label {C : Ctx} {l : Nat} {k : List Item} {L : LS} (h : GoS C k L) : GoS C (.code (.label l) :: k) L := go_one (fun _ _ _ => step_label) h
theorem go_seq {C : Ctx} {x y : Code} {k : List Item} {L : LS} (h : GoS C (.code x :: .code y :: k) L) : GoS C (.code (.seq x y) :: k) L := go_one (fun _ _ _ => step_seq) h
theorem go_block {C : Ctx} {n : Nat} {x : Code} {k : List Item} {L : LS} (h : GoS C (.code x :: .inBlock n :: k) L) : GoS C (.code (.block n x) :: k) L := go_one (fun _ _ _ => step_block) h
theorem go_inBlock {C : Ctx} {n : Nat} {k : List Item} {L : LS} (h : GoS C k L) : GoS C (.inBlock n :: k) L := go_one (fun _ _ _ => step_inBlock) h
theorem go_exit {C : Ctx} {n : Nat} {k k' : List Item} {L : LS} (hk : exitTo n k = some k') (h : GoS C k' L) : GoS C (.code (.exit n) :: k) L := go_one (fun _ _ _ => step_exit hk) h
theorem go_loopIn {C : Ctx} {x : Code} {k : List Item} {L : LS} (h : GoS C (.code x :: .inLoop x :: k) L) : GoS C (.code (.loop x) :: k) L := go_one (fun _ _ _ => step_loop) h
theorem go_inLoop {C : Ctx} {x : Code} {k : List Item} {L : LS} (h : GoS C (.code x :: .inLoop x :: k) L) : GoS C (.inLoop x :: k) L := go_one (fun _ _ _ => step_inLoop) h
theorem go_cond {C : Ctx} {c : Operand} {x y : Code} {k : List Item} {L : LS} {t : Bool} (hc : L.ev c = .pv (.val (.bool t))) (h : GoS C (.code (if t then x else y) :: k) L) : GoS C (.code (.cond c x y) :: k) L := by
  intro hd F a w hi cs
  obtain ⟨e, w', fr, h1, h2, h3⟩ := h hd F a w hi cs
  have hv := ev_rep hi c
  rw [hc] at hv
  exact ⟨e, w', fr, h1, .of_steps (.one (step_cond (bool_of hv))) h2, h3⟩

theorem go_region {C : Ctx} {id : Nat} {ops : Array Oper} {k : List Item} {L : LS} (h : RT C ops false (List.range ops.size) [] L (GoS C k)) : GoS C (.code (.region id ops false) :: k) L := by
  intro hd F a w hi cs
  have hw := rt_text (Q := fun e a' w' => e = .normal ∧ ∃ L' hd' F', GoS C k L' ∧ Inv C L' hd' F' a' w') _ _ L _ hd F a w h hi (fun L' hd' F' a' w' h1 h2 => ⟨rfl, L', hd', F', h1, h2⟩)
  obtain ⟨e, a', w', ⟨rfl, L', hd', F', h1, h2⟩, harr⟩ := wp_region (id := id) hw C.b k cs
  obtain ⟨e, w'', fr, h3, h4, h5⟩ := h1 hd' F' a' w' h2 cs
  exact ⟨e, w'', fr, h3, .of_steps harr h4, h5⟩

/-- A region that draws its order: what is asked of its text. -/
def drawOk (ops : Array Oper) : Bool := go ops.toList 0
where
  go : List Oper → Nat → Bool
    | [], _ => true
    | o :: l, i => (o.after.toList.all fun e => !(Region.binds .any e) || Nat.blt e.on i) && go l (i + 1)
theorem drawOk_spec {ops : Array Oper} (h : drawOk ops = true) (i : Nat) (o : Oper) (ho : ops[i]? = some o) : ∀ e ∈ o.after.toList, Region.binds .any e = true → e.on < i := by
  have key : ∀ (l : List Oper) (n j : Nat), drawOk.go l n = true → l[j]? = some o → ∀ e ∈ o.after.toList, Region.binds .any e = true → e.on < n + j := by
    intro l
    induction l with
    | nil => intro n j _ hj; simp at hj
    | cons x l ih =>
      intro n j hg hj e he hb
      simp only [drawOk.go, Bool.and_eq_true, List.all_eq_true] at hg
      cases j with
      | zero =>
        simp at hj
        subst hj
        have := hg.1 e he
        simp [hb, Nat.blt_eq] at this
        exact this
      | succ j =>
        simp at hj
        have := ih (n + 1) j hg.2 hj e he hb
        omega
  intro e he hb
  have := key ops.toList 0 i h (by simpa using ho) e he hb
  omega
theorem drew_inv {C : Ctx} {L : LS} {hd : Nm → Hd} {F : Nat → Prop} {a : Act} {w : World} (h : Inv C L hd F a w) : Inv C L hd F a { w with drawn := w.drawn + 1 } := by
  have hm : ∀ x v, Rep w F hd x v → Rep { w with drawn := w.drawn + 1 } F hd x v := fun x v hx => Rep.mono (w := w) (w' := w.drew) (fun _ _ => rfl) (fun _ h => h) hx (fun _ _ => .inl rfl)
  refine { h with slots := fun t => hm _ _ (h.slots t), blocks := fun r => ?_, ntmps := h.ntmps, defers := h.defers, gl := C.Gl.mono h.gl (fun _ _ => rfl) (fun _ h => h) }
  have hb := h.blocks r
  cases hl : L.blk r with
  | none => rw [hl] at hb; exact hb
  | some b =>
    rw [hl] at hb
    cases b with
    | box ty cs =>
      obtain ⟨k, arr, h1, h2, h3, h4, h5⟩ := hb
      exact ⟨k, arr, h1, h2, h3, fun j c v hj hv => hm _ _ (h4 j c v hj hv), h5⟩
    | row e sz es =>
      obtain ⟨v, cells, h1, h2, h3, h4, h5⟩ := hb
      exact ⟨v, cells, h1, h2, h3, fun i j el c u h6 h7 h8 => RepP.mono (w := w) (w' := w.drew) (fun _ _ => rfl) (fun _ h => h) (h4 i j el c u h6 h7 h8), h5⟩
    | raw Q => exact hb
    | iter Q => exact hb
    | gen Q => exact hb
theorem go_regionD {C : Ctx} {id : Nat} {ops : Array Oper} {k : List Item} {L : LS} (hm : C.P.follows .mixedOrders = true) (hd : drawOk ops = true) (hf : ∀ r ∈ mayMake ops (List.range ops.size), L.freshB r = true)
    (h : RT C ops true (List.range ops.size) [] L (GoS C k)) : GoS C (.code (.region id ops true) :: k) L := by
  intro hd' F a w hi cs
  have hw := rt_any (C := C) (Q := fun e a' w' => e = .normal ∧ ∃ L' hd' F', GoS C k L' ∧ Inv C L' hd' F' a' w') (K := GoS C k) (fun L M hl hg => GoS.like L M hl hg) (fun L' hd' F' a' w' h1 h2 => ⟨rfl, L', hd', F', h1, h2⟩)
    (fun i o ho => drawOk_spec hd i o ho) ops.size (List.range ops.size) (Array.replicate ops.size false) L hd' F a _ (by simp) List.pairwise_lt_range (fun i => by
      simp only [List.mem_range]
      constructor
      · intro hi; exact ⟨hi, by simp [Array.getD_eq_getD_getElem?, hi]⟩
      · exact fun h => h.1) (by simp) (fun k ok hk => by
        exfalso
        rw [Array.getD_eq_getD_getElem?] at hk
        by_cases hs : k < ops.size
        · simp [hs] at hk
        · rw [Array.getElem?_eq_none (by simpa using hs)] at hk; cases hk) h (fun r hr => LS.fresh_of (hf r hr)) (drew_inv hi)
  obtain ⟨e, a', w', ⟨rfl, L', hd'', F', h1, h2⟩, harr⟩ := wp_region_any (id := id) hm hw C.b k cs
  obtain ⟨e, w'', fr, h3, h4, h5⟩ := h1 hd'' F' a' w' h2 cs
  exact ⟨e, w'', fr, h3, .of_steps harr h4, h5⟩

/-! ### the end -/
/-- A map of which Q holds, in what may be read. -/
def mapAt (Q : World → (Nat → Prop) → Obj → Prop) (w : World) (F : Nat → Prop) (v : Value) : Prop := ∃ k o, v = .map (some k) ∧ F k ∧ w.heap[k]? = some o ∧ Q w F o
/-- A value laid open: rows of the call's own become read-only ones, but those that are handed back by name. -/
def AV.frz (keep H : Nm → Option Blk) : AV → AV
  | .own r => match keep r with
    | some _ => .own r
    | none => match H r with
      | some (.row _ sz es) => .pv (.ro sz es)
      | _ => .any
  | .agg l => .agg (frzL keep H l)
  | .tup l => .tup (frzL keep H l)
  | .pv p => match p with
    | .nilS sz => .pv (.ro sz [])
    | p => .pv p
  | .rop cs => .rop cs
  | .ptr r off => match keep r with
    | some _ => .ptr r off
    | none => .any
  | .hmap r => match keep r with
    | some _ => .hmap r
    | none => match H r with
      | some (.raw Q) => .rom Q
      | some (.gen Q) => .pv (.opq (mapAt Q))
      | _ => .any
  | .rom Q => .rom Q
  | .opq Q => .opq Q
  | _ => .any
where frzL (keep H : Nm → Option Blk) : List AV → List AV
  | [] => []
  | x :: l => x.frz keep H :: frzL keep H l
theorem frzL_get (keep H : Nm → Option Blk) : ∀ (l : List AV) (j : Nat), (AV.frz.frzL keep H l)[j]? = (l[j]?).map (AV.frz keep H)
  | [], j => by simp [AV.frz.frzL]
  | x :: l, 0 => by simp [AV.frz.frzL]
  | x :: l, j + 1 => by simp [AV.frz.frzL, frzL_get keep H l j]
theorem frzL_len (keep H : Nm → Option Blk) : ∀ (l : List AV), (AV.frz.frzL keep H l).length = l.length
  | [] => rfl
  | x :: l => by simp [AV.frz.frzL, frzL_len keep H l]
/-- What may be read, those blocks among it that are handed back by no name. -/
def plus (keep : Nm → Option Blk) (F : Nat → Prop) (hd : Nm → Hd) (k : Nat) : Prop := F k ∨ ∃ r, keep r = none ∧ (hd r).owns k
def onlyHd (keep : Nm → Option Blk) (hd : Nm → Hd) (r : Nm) : Hd := match keep r with
  | none => .dead
  | some _ => hd r
theorem onlyHd_or (keep : Nm → Option Blk) (hd : Nm → Hd) (r : Nm) : onlyHd keep hd r = hd r ∨ onlyHd keep hd r = .dead := by unfold onlyHd; cases keep r <;> simp
theorem row_ro {w : World} {F : Nat → Prop} {e sz : Nat} {es : List (List PV)} {v : Value} {cells : List Value} (ho : w.ownsRow 0 e sz v es.length cells) (hl : ∀ (i : Nat) (el : List PV), es[i]? = some el → el.length = sz)
    (hr : ∀ (i j : Nat) (el : List PV) (c : PV) (u : Value), es[i]? = some el → el[j]? = some c → cells[i * sz + j]? = some u → RepP w F c u) (hF : ∀ k, v.ownBlock = some k → F k) : RepP w F (.ro sz es) v := by
  obtain ⟨hlen, hv⟩ := ho
  have hcell : ∀ (i j : Nat) (el : List PV) (c : PV), es[i]? = some el → el[j]? = some c → ∃ u, cells[i * sz + j]? = some u := by
    intro i j el c hi hj
    have h1 : i < es.length := (List.getElem?_eq_some_iff.1 hi).1
    have h2 : j < sz := by rw [← hl i el hi]; exact (List.getElem?_eq_some_iff.1 hj).1
    have : i * sz + j < cells.length := by
      rw [hlen]
      calc i * sz + j < i * sz + sz := by omega
        _ = (i + 1) * sz := by rw [Nat.add_mul, Nat.one_mul]
        _ ≤ es.length * sz := Nat.mul_le_mul_right _ h1
    exact ⟨_, List.getElem?_eq_getElem this⟩
  have hval : ∀ (i j : Nat) (el : List PV) (c : PV), es[i]? = some el → el[j]? = some c → RepP w F c (cells.getD (i * sz + j) undef) := by
    intro i j el c hi hj
    obtain ⟨u, hu⟩ := hcell i j el c hi hj
    rw [List.getD_eq_getElem?_getD, hu]
    exact hr i j el c u hi hj hu
  rcases hv with ⟨rfl, hn⟩ | ⟨g, cap, cur, rfl, _, hg, hnc, hcm, hcs, htake⟩
  · have : es = [] := List.eq_nil_of_length_eq_zero hn
    subst this
    exact .ro sz [] none 0 (fun _ _ => undef) (fun _ => rfl) (by simp) (by simp) (fun i e h => by simp at h) (fun h => absurd rfl h) (fun i j e c h => by simp at h)
  · refine .ro sz es (some ⟨g, 0, none⟩) cap (fun i j => cells.getD (i * sz + j) undef) (fun h => by cases h) hnc (by simp only [maxLen] at hcm; omega) hl (fun _ => ⟨⟨g, 0, none⟩, rfl, rfl, hF g rfl, fun i j el c hi hj => ?_⟩) hval
    obtain ⟨u, hu⟩ := hcell i j el c hi hj
    rw [List.getD_eq_getElem?_getD, hu]
    exact World.ownsRow.cells (base := 0) (e := e) (size := sz) (n := es.length) (v := .slice (some ⟨g, 0, none⟩) es.length cap) ⟨hlen, .inr ⟨g, cap, cur, rfl, Nat.zero_le _, hg, hnc, hcm, hcs, htake⟩⟩ rfl _ _ hu

theorem frz_rep {w : World} {F : Nat → Prop} {hd : Nm → Hd} {keep H : Nm → Option Blk} (hb : ∀ r, HoldB w F hd r (H r)) {x : AV} {v : Value} (h : Rep w F hd x v) : Rep w (plus keep F hd) (onlyHd keep hd) (x.frz keep H) v := by
  have hcase : ∀ r, onlyHd keep hd r = hd r ∨ onlyHd keep hd r = .dead := onlyHd_or keep hd
  induction h with
  | pv p v h =>
    simp only [AV.frz]
    split
    · rename_i sz
      cases h
      exact .pv _ _ (.ro sz [] none 0 (fun _ _ => undef) (fun _ => rfl) (by simp) (by simp) (fun i e h => by simp at h) (fun h => absurd rfl h) (fun i j e c h => by simp at h))
    · exact .pv p v (h.mono (fun _ _ => rfl) (fun _ h => .inl h))
  | agg l cs hl h h1 ih =>
    refine .agg _ cs (by rw [frzL_len]; exact hl) (fun j c v hj hv => ?_) h1
    rw [frzL_get] at hj
    cases hlj : l[j]? with
    | none => rw [hlj] at hj; cases hj
    | some y => rw [hlj] at hj; cases hj; exact ih j y v hlj hv
  | tup l cs hl h ih =>
    refine .tup _ cs (by rw [frzL_len]; exact hl) (fun j c v hj hv => ?_)
    rw [frzL_get] at hj
    cases hlj : l[j]? with
    | none => rw [hlj] at hj; cases hj
    | some y => rw [hlj] at hj; cases hj; exact ih j y v hlj hv
  | own r v h0 h =>
    simp only [AV.frz]
    cases hk : keep r with
    | some _ =>
      exact .own r v h0 fun u hu => h u (by
        rcases hcase r with e | e
        · exact e ▸ hu
        · rw [e] at hu; cases hu)
    | none =>
      have := hb r
      cases hr : H r with
      | none => exact .any _
      | some b =>
        rw [hr] at this
        cases b with
        | box => exact .any _
        | raw => exact .any _
        | iter => exact .any _
        | gen => exact .any _
        | row e sz es =>
          obtain ⟨u, cells, h1, h2, h3, h4, h5⟩ := this
          obtain rfl := h u h1
          exact .pv _ _ (row_ro h2 h3 (fun i j el c u' a1 a2 a3 => (h4 i j el c u' a1 a2 a3).mono (fun _ _ => rfl) (fun _ h => .inl h)) (fun k hk' => .inr ⟨r, hk, by rw [h1]; exact hk'⟩))
  | rop cs ad u hs h1 hc hr => exact .rop cs ad u hs (.inl h1) hc (fun j c hj => (hr j c hj).mono (fun _ _ => rfl) (fun _ h => .inl h))
  | ptr r off v h0 h =>
    simp only [AV.frz]
    cases hk : keep r with
    | none => exact .any _
    | some _ =>
      exact .ptr r off v h0 fun u hu => h u (by
        rcases hcase r with e | e
        · exact e ▸ hu
        · rw [e] at hu; cases hu)
  | hmap r v h0 h =>
    simp only [AV.frz]
    cases hk : keep r with
    | none =>
      have := hb r
      cases hr : H r with
      | none => exact .any _
      | some b =>
        rw [hr] at this
        cases b with
        | box => exact .any _
        | row => exact .any _
        | iter => exact .any _
        | raw Q =>
          obtain ⟨k, o, h1, h2, h3⟩ := this
          obtain rfl := h k h1
          exact .rom Q k o (.inr ⟨r, hk, by rw [h1]; exact rfl⟩) h2 h3
        | gen Q =>
          obtain ⟨k, o, h1, h2, h3⟩ := this
          obtain rfl := h k h1
          have hF : plus keep F hd k := .inr ⟨r, hk, by rw [h1]; exact rfl⟩
          exact .pv _ _ (.opq _ _ rfl fun w2 F2 e1 e2 => ⟨k, o, rfl, e2 k hF, (e1 k hF).trans h2, h3 w2 F2 (fun j hj => e1 j (.inl hj)) (fun j hj => e2 j (.inl hj))⟩)
    | some _ =>
      exact .hmap r v h0 fun u hu => h u (by
        rcases hcase r with e | e
        · exact e ▸ hu
        · rw [e] at hu; cases hu)
  | rom Q k o h1 h2 h3 => exact .rom Q k o (.inl h1) h2 h3
  | opq Q v h1 h => exact .opq Q v h1 fun w2 F2 e1 e2 => h w2 F2 (fun k hk => e1 k (.inl hk)) (fun k hk => e2 k (.inl hk))
  | _ => exact .any _

def res1 (T : TT) (L : LS) : ResultVar → Option AV
  | .tmp t => some (L.get t)
  | .cell a ty => match L.get a with
    | .ptr r 0 => match L.blk r with
      | some (.box _ cs) => match lkT T ty with
        | some i => if i.agg = true then (if i.size = cs.length then some (.agg cs) else none) else match cs with
          | [x] => some x
          | _ => none
        | none => none
      | _ => none
    | _ => none
def resL (T : TT) (L : LS) : List ResultVar → Option (List AV)
  | [] => some []
  | r :: l => match res1 T L r with
    | some x => match resL T L l with
      | some xs => some (x :: xs)
      | none => none
    | none => none
def resAV (T : TT) (L : LS) (rs : List ResultVar) : Option AV := match resL T L rs with
  | some [x] => some x
  | some l => some (.tup l)
  | none => none

theorem run_mapM {P : Program} {α β : Type} (f : α → Sem β) (w : World) : ∀ (l : List α) (vs : List β), vs.length = l.length → (∀ (j : Nat) (x : α) (v : β), l[j]? = some x → vs[j]? = some v → (f x).run P w = .ok v w) → (l.mapM f).run P w = .ok vs w
  | [], vs, hl, _ => by
    obtain rfl : vs = [] := List.eq_nil_of_length_eq_zero (by simpa using hl)
    rfl
  | x :: l, vs, hl, h => by
    cases vs with
    | nil => simp at hl
    | cons v vs =>
      have h0 := h 0 x v rfl rfl
      have ih := run_mapM f w l vs (by simpa using hl) (fun j x v h1 h2 => h (j + 1) x v h1 h2)
      simp [List.mapM_cons, h0, ih]

/-- One result, as the model takes it. -/
def rsem (tmps : Array Value) : ResultVar → Sem Value
  | .tmp t => pure (tmps.getD t undef)
  | .cell b t => do loadVar t (← asAddr (tmps.getD b undef))

theorem run_res1 {C : Ctx} {T : TT} (hT : TOk C.P T) {L : LS} {hd : Nm → Hd} {F : Nat → Prop} {a : Act} {w : World} (hi : Inv C L hd F a w) {r : ResultVar} {x : AV} (h : res1 T L r = some x) :
    ∃ v, (rsem a.tmps r).run C.P w = .ok v w ∧ Rep w F hd x v := by
  cases r with
  | tmp t =>
    simp only [res1, Option.some.injEq] at h
    subst h
    exact ⟨_, rfl, hi.slots t⟩
  | cell b ty =>
    simp only [res1] at h
    have hs := hi.slots b
    generalize L.get b = y at h hs
    cases y with
    | ptr r off =>
     cases off with
     | succ n => simp at h
     | zero =>
      simp only at h
      have hb := hi.blocks r
      generalize L.blk r = z at h hb
      cases z with
      | none => simp at h
      | some z =>
        cases z with
        | row => simp at h
        | raw => simp at h
        | iter => simp at h
        | gen => simp at h
        | box ty' cs =>
          simp only at h
          obtain ⟨k, arr, h1, h2, h3, h4, h5⟩ := hb
          have hv : a.tmps.getD b undef = .pointer (some ⟨k, 0, none⟩) := by cases hs with | ptr _ _ _ _ hp => exact hp k h1
          simp only [rsem, hv]
          cases hlk : lkT T ty with
          | none => rw [hlk] at h; cases h
          | some i =>
            rw [hlk] at h
            have ok := lkT_ok hT hlk
            simp only at h
            have hcell : ∀ j v, arr.toList[j]? = some v → w.cell? ((⟨k, 0, none⟩ : Addr).add j) = some v := by
              intro j v hj
              have hadd : (⟨k, 0, none⟩ : Addr).add j = ⟨k, j, none⟩ := by unfold Addr.add; split <;> simp_all
              rw [hadd]
              simpa [World.cell?, h2] using hj
            obtain ⟨inf, z, j1, j2, _⟩ := ok.info
            cases hag : i.agg with
            | true =>
              rw [hag] at h
              simp only [if_true] at h
              split at h
              · rename_i hsz
                cases h
                have hload := run_loadCells_list (P := C.P) w ⟨k, 0, none⟩ arr.toList hcell
                have hlen : arr.toList.length = inf.size := by simp [j2, hsz, h3]
                rw [hlen] at hload
                refine ⟨.agg arr.toList.toArray, ?_, .agg cs arr.toList (by simpa using h3) (fun j c v hj hv => h4 j c v hj (by simpa using hv)) h5⟩
                simp [asAddr, loadVar, ok.agg w, hag, sizeOf, typeInfo, j1, hload]
              · cases h
            | false =>
              rw [hag] at h
              simp only [Bool.false_eq_true, if_false] at h
              split at h
              · rename_i c
                cases h
                have hone : 0 < arr.size := by rw [h3]; simp
                refine ⟨arr[0], ?_, h4 0 x arr[0] rfl (by simp)⟩
                have := hcell 0 arr[0] (by simp)
                have hadd : (⟨k, 0, none⟩ : Addr).add 0 = ⟨k, 0, none⟩ := rfl
                rw [hadd] at this
                simp [asAddr, loadVar, ok.agg w, hag, this]
              · cases h
    | _ => simp at h

theorem run_resL {C : Ctx} {T : TT} (hT : TOk C.P T) {L : LS} {hd : Nm → Hd} {F : Nat → Prop} {a : Act} {w : World} (hi : Inv C L hd F a w) : ∀ (rs : List ResultVar) (xs : List AV), resL T L rs = some xs →
    ∃ vs : List Value, vs.length = rs.length ∧ xs.length = vs.length ∧ (∀ (j : Nat) (r : ResultVar) (v : Value), rs[j]? = some r → vs[j]? = some v → (rsem a.tmps r).run C.P w = .ok v w) ∧
      ∀ (j : Nat) (x : AV) (v : Value), xs[j]? = some x → vs[j]? = some v → Rep w F hd x v
  | [], xs, h => by
    simp only [resL, Option.some.injEq] at h
    subst h
    exact ⟨[], rfl, rfl, fun j r v hj => by simp at hj, fun j x v hj => by simp at hj⟩
  | r :: rs, xs, h => by
    simp only [resL] at h
    cases hr : res1 T L r with
    | none => rw [hr] at h; cases h
    | some x =>
      rw [hr] at h
      cases hl : resL T L rs with
      | none => rw [hl] at h; cases h
      | some ys =>
        rw [hl] at h
        cases h
        obtain ⟨v, h1, h2⟩ := run_res1 hT hi hr
        obtain ⟨vs, k1, k2, k3, k4⟩ := run_resL hT hi rs ys hl
        refine ⟨v :: vs, by simp [k1], by simp [k2], fun j r' v' hj hv => ?_, fun j x' v' hj hv => ?_⟩
        · cases j with
          | zero => simp at hj hv; subst hj hv; exact h1
          | succ j => simp at hj hv; exact k3 j r' v' hj hv
        · cases j with
          | zero => simp at hj hv; subst hj hv; exact h2
          | succ j => simp at hj hv; exact k4 j x' v' hj hv

theorem run_resAV {C : Ctx} {T : TT} (hT : TOk C.P T) {L : LS} {hd : Nm → Hd} {F : Nat → Prop} {a : Act} {w : World} (hi : Inv C L hd F a w) {x : AV} (h : resAV T L C.fn.results.toList = some x) :
    ∃ v, (results C.fn a.tmps).run C.P w = .ok v w ∧ Rep w F hd x v := by
  unfold resAV at h
  cases hr : resL T L C.fn.results.toList with
  | none => rw [hr] at h; cases h
  | some xs =>
    rw [hr] at h
    obtain ⟨vs, k1, k2, k3, k4⟩ := run_resL hT hi _ xs hr
    have hrun := run_mapM (P := C.P) (rsem a.tmps) w _ vs k1 k3
    have hm : (results C.fn a.tmps).run C.P w = .ok (if h : vs.length = 1 then vs[0] else .tuple vs.toArray) w := by
      have hdef : results C.fn a.tmps = (do let vs ← C.fn.results.mapM (rsem a.tmps); pure (if h : vs.size = 1 then vs[0] else .tuple vs)) := by
        unfold results
        congr 1
      rw [hdef, Array.mapM_eq_mapM_toList]
      simp only [map_eq_pure_bind, bind_assoc, pure_bind, Sem.run_bind]
      rw [hrun]
      simp
    have hgoal : ∀ (vs : List Value), xs.length = vs.length → (∀ (j : Nat) (x : AV) (v : Value), xs[j]? = some x → vs[j]? = some v → Rep w F hd x v) → Rep w F hd x (if h : vs.length = 1 then vs[0]'(by omega) else .tuple vs.toArray) := by
      clear hm hrun k3 k1 k2 k4 hr
      intro vs k2 k4
      rcases xs with _ | ⟨y, _ | ⟨y', ys⟩⟩ <;> rcases vs with _ | ⟨v, _ | ⟨v', vs⟩⟩ <;> simp at k2
      · simp only [Option.some.injEq] at h
        subst h
        exact .tup [] [] rfl (fun j c v hj => by simp at hj)
      · simp only [Option.some.injEq] at h
        subst h
        exact k4 0 y v rfl rfl
      · simp only [Option.some.injEq] at h
        subst h
        simp only [List.length_cons, show ¬ (vs.length + 1 + 1 = 1) by omega, dite_false]
        exact .tup _ _ (by simp [k2]) k4
    exact ⟨_, hm, hgoal vs k2 k4⟩

def subH (L : LS) : List (Nm × Option Blk) → Prop
  | [] => True
  | (r, b) :: l => L.blk r = b ∧ subH L l
theorem subH_get {L : LS} : ∀ {l : List (Nm × Option Blk)} {r : Nm}, subH L l → lkH l r = L.blk r ∨ lkH l r = none
  | [], r, _ => .inr rfl
  | (k, v) :: l, r, h => by
    simp only [lkH]
    split
    · rename_i e
      rw [Nm.eqb_iff] at e
      subst e
      exact .inl h.1.symm
    · exact subH_get h.2

/-- Blocks that are handed on lie apart, in what may be written. -/
structure Lies (w : World) (F : Nat → Prop) (hd : Nm → Hd) (H : List (Nm × Option Blk)) : Prop where
  fin : ∀ k, F k → k < w.heap.size
  sep : ∀ r s k, r ≠ s → (hd r).owns k → ¬ (hd s).owns k
  mine : ∀ r k, (hd r).owns k → ¬ F k ∧ k < w.heap.size
  holds : ∀ r, HoldB w F hd r (lkH H r)
/-- How the memory behind a call stands to that ahead of it. -/
structure Left (w0 : World) (F0 : Nat → Prop) (hd0 : Nm → Hd) (w : World) (F : Nat → Prop) (hd : Nm → Hd) : Prop where
  mine : ∀ r k, (hd r).owns k → w0.heap.size ≤ k ∨ ∃ s, (hd0 s).owns k
  fin : ∀ k, F k → F0 k ∨ w0.heap.size ≤ k ∨ ∃ s, (hd0 s).owns k
  more : ∀ k, F0 k → F k
  kept : ∀ i, hd (.arg i) = hd0 (.arg i) ∨ hd (.arg i) = .dead
  os : w.os = w0.os
  tape : w.tape = w0.tape
  output : w.output = w0.output
  size : w0.heap.size ≤ w.heap.size
  old : ∀ k, k < w0.heap.size → (¬ ∃ s, (hd0 s).owns k) → w.heap[k]? = w0.heap[k]?
/-- What a call is to come to. -/
def ownR (w0 : World) (F0 : Nat → Prop) (hd0 : Nm → Hd) (post : List (Nm × Option Blk)) (v : AV) (e : Ending) (w : World) : Prop :=
  ∃ cv F hd, e = .returned cv ∧ Rep w F hd v cv ∧ Lies w F hd post ∧ Left w0 F0 hd0 w F hd
def ownC (P : Program) (f : FuncId) (fn : Func) (w0 : World) (F0 : Nat → Prop) (hd0 : Nm → Hd) (Gl : Granted) (post : List (Nm × Option Blk)) (v : AV) : Ctx := { P, f, fn, w0, F0, hd0, Gl, R := ownR w0 F0 hd0 post v }
/-- Blocks that are handed on, by their numbers. -/
def keyed : Nat → List (Option Blk) → List (Nm × Option Blk)
  | _, [] => []
  | i, b :: l => (.arg i, b) :: keyed (i + 1) l
/-- A call: whatever the world, if the blocks that are handed on hold pre, it answers v, they hold post, and all else that was there is as it was. -/
def ACalls (P : Program) (Gl : Granted) (f : FuncId) (args : List AV) (pre : List (Option Blk)) (v : AV) (post : List (Option Blk)) : Prop :=
  ∀ (w0 : World) (F0 : Nat → Prop) (hd0 : Nm → Hd) (cargs : List Value), Gl.p w0 F0 → Lies w0 F0 hd0 (keyed 0 pre) → cargs.length = args.length → (∀ (j : Nat) (x : AV) (c : Value), args[j]? = some x → cargs[j]? = some c → Rep w0 F0 hd0 x c) →
    Calls P f cargs.toArray w0 (ownR w0 F0 hd0 (keyed 0 post) v)

theorem own_end {P : Program} {f : FuncId} {fn : Func} {w0 : World} {F0 : Nat → Prop} {hd0 : Nm → Hd} {Gl : Granted} {post : List (Nm × Option Blk)} {v : AV} {T : TT} (hT : TOk P T) {L : LS} {x : AV} (h : resAV T L fn.results.toList = some x) (hv : x.frz (lkH post) L.blk = v) (hp : subH L post)
    {hd : Nm → Hd} {F : Nat → Prop} {a : Act} {w : World} (hi : Inv (ownC P f fn w0 F0 hd0 Gl post v) L hd F a w) : ∃ c, (results fn a.tmps).run P w = .ok c w ∧ ownR w0 F0 hd0 post v (.returned c) w := by
  obtain ⟨c, h1, h2⟩ := run_resAV (C := ownC P f fn w0 F0 hd0 Gl post v) hT hi h
  have hown : ∀ r k, (onlyHd (lkH post) hd r).owns k → (hd r).owns k := fun r k hk => by
    rcases onlyHd_or (lkH post) hd r with e | e
    · exact e ▸ hk
    · rw [e] at hk; exact hk.elim
  refine ⟨c, h1, c, plus (lkH post) F hd, onlyHd (lkH post) hd, rfl, hv ▸ frz_rep hi.blocks h2, ⟨fun k hk => ?_, fun r s k hne h1 h2 => hi.sep r s k hne (hown r k h1) (hown s k h2), fun r k hk => ⟨?_, (hi.mine r k (hown r k hk)).2.1⟩, fun r => ?_⟩,
    ⟨fun r k hk => (hi.mine r k (hown r k hk)).2.2, fun k hk => ?_, fun k hk => .inl (hi.more k hk), fun i => ?_, hi.os, hi.tape, hi.output, hi.size, fun k hk hn => hi.old k hk hn⟩⟩
  · rcases hk with hk | ⟨r, _, hr⟩
    · exact (hi.fin k hk).1
    · exact (hi.mine r k hr).2.1
  · rintro (h | ⟨s, hs, h⟩)
    · exact (hi.mine r k (hown r k hk)).1 h
    · have hne : r ≠ s := fun e => by subst e; simp only [onlyHd, hs] at hk; exact hk.elim
      exact hi.sep r s k hne (hown r k hk) h
  · cases hl : lkH post r with
    | none => simp [HoldB, onlyHd, hl]
    | some b =>
      have hlb : L.blk r = some b := by
        rcases subH_get (r := r) hp with e | e
        · rw [← e, hl]
        · rw [hl] at e; cases e
      have hb := hi.blocks r
      rw [hlb] at hb
      exact hb.mono (fun _ _ => rfl) (fun _ h => .inl h) (by simp [onlyHd, hl]) (fun _ _ => rfl) fun c hc s hs => onlyHd_or _ _ s
  · rcases hk with hk | ⟨r, _, hr⟩
    · exact (hi.fin k hk).2
    · exact .inr (hi.mine r k hr).2.2
  · rcases onlyHd_or (lkH post) hd (.arg i) with e | e
    · rw [e]; exact hi.kept i
    · exact .inr e
theorem go_ret {P : Program} {f : FuncId} {fn : Func} {w0 : World} {F0 : Nat → Prop} {hd0 : Nm → Hd} {Gl : Granted} {post : List (Nm × Option Blk)} {v : AV} {T : TT} (hT : TOk P T) (hf : P.funcs[f]? = some fn) {k : List Item} {L : LS} {x : AV} (h : resAV T L fn.results.toList = some x) (hv : x.frz (lkH post) L.blk = v)
    (hp : subH L post) : GoS (ownC P f fn w0 F0 hd0 Gl post v) (.code .ret :: k) L := by
  intro hd F a w hi cs
  obtain ⟨c, h1, h2⟩ := own_end hT h hv hp hi
  exact ⟨.returned c, w, _, h2, Steps.one step_ret, rfl, rfl, hi.defers, rfl, fn, hf, h1⟩
theorem go_done {P : Program} {f : FuncId} {fn : Func} {w0 : World} {F0 : Nat → Prop} {hd0 : Nm → Hd} {Gl : Granted} {post : List (Nm × Option Blk)} {v : AV} {T : TT} (hT : TOk P T) (hf : P.funcs[f]? = some fn) {L : LS} {x : AV} (h : resAV T L fn.results.toList = some x) (hv : x.frz (lkH post) L.blk = v)
    (hp : subH L post) : GoS (ownC P f fn w0 F0 hd0 Gl post v) [] L := by
  intro hd F a w hi cs
  obtain ⟨c, h1, h2⟩ := own_end hT h hv hp hi
  exact ⟨.returned c, w, _, h2, Steps.one step_end, rfl, rfl, hi.defers, rfl, fn, hf, h1⟩

def startL : Nat → List AV → List (Nat × AV)
  | _, [] => []
  | n, x :: l => (n, x) :: startL (n + 1) l
theorem lkS_start : ∀ (l : List AV) (n t : Nat), lkS (startL n l) t = if n ≤ t then l.getD (t - n) .any else .any
  | [], n, t => by simp [startL, lkS]
  | x :: l, n, t => by
    simp only [startL, lkS, lkS_start l (n + 1) t]
    by_cases h : n = t
    · subst h; simp
    · by_cases h2 : n + 1 ≤ t
      · have h3 : n ≤ t := by omega
        rw [if_neg h, if_pos h2, if_pos h3, show t - n = (t - (n + 1)) + 1 by omega]
        simp
      · have h3 : ¬ n ≤ t := by omega
        rw [if_neg h, if_neg h2, if_neg h3]
def LS.start (args : List AV) (pre : List (Option Blk)) : LS := ⟨startL 0 args, keyed 0 pre⟩

theorem own_calls {P : Program} {Gl : Granted} {f : FuncId} {fn : Func} {c : Code} {args : List AV} {pre : List (Option Blk)} {post : List (Nm × Option Blk)} {v : AV} (hf : P.funcs[f]? = some fn) (hb : fn.body = some c) (hn : args.length ≤ fn.ntmps)
    (h : ∀ w0 F0 hd0, GoS (ownC P f fn w0 F0 hd0 Gl post v) [.code c] (LS.start args pre)) : ∀ (w0 : World) (F0 : Nat → Prop) (hd0 : Nm → Hd) (cargs : List Value), Gl.p w0 F0 → Lies w0 F0 hd0 (keyed 0 pre) → cargs.length = args.length → (∀ (j : Nat) (x : AV) (c : Value), args[j]? = some x → cargs[j]? = some c → Rep w0 F0 hd0 x c) →
    Calls P f cargs.toArray w0 (ownR w0 F0 hd0 post v) := by
  intro w0 F0 hd0 cargs hg hlies hl hr cs
  let b : Frame := { (default : Frame) with fn := f, kind := .normal }
  have henter : Frame.enter P f cargs.toArray .normal = b.at { tmps := cargs.toArray ++ Array.replicate (fn.ntmps - cargs.toArray.size) undef, defers := [] } [.code c] := by
    simp [Frame.enter, Frame.at, hf, hb, b]
  rw [henter]
  refine h w0 F0 hd0 hd0 F0 _ w0 ?_ cs
  refine { slots := fun t => ?_, blocks := hlies.holds, sep := hlies.sep, mine := fun r k h => ⟨(hlies.mine r k h).1, (hlies.mine r k h).2, .inr ⟨r, h⟩⟩, fin := fun k hk => ⟨hlies.fin k hk, .inl hk⟩, more := fun _ h => h, kept := fun i => .inl rfl, gl := hg, os := rfl, tape := rfl, output := rfl, size := Nat.le_refl _, old := fun _ _ _ => rfl, ntmps := ?_, defers := rfl }
  · simp only [LS.start, LS.get, lkS_start, Nat.zero_le, if_true, Nat.sub_zero]
    cases ht : args[t]? with
    | none => simp only [List.getD_eq_getElem?_getD, ht, Option.getD_none]; exact .any _
    | some x =>
      have hlt : t < cargs.length := by rw [hl]; exact (List.getElem?_eq_some_iff.1 ht).1
      simp only [List.getD_eq_getElem?_getD, ht, Option.getD_some]
      have := hr t x cargs[t] ht (List.getElem?_eq_getElem hlt)
      simpa [Array.getD_eq_getD_getElem?, Array.getElem?_append_left, hlt] using this
  · simp [ownC]; omega

theorem acalls_of {P : Program} {Gl : Granted} {f : FuncId} {fn : Func} {c : Code} {args : List AV} {pre post : List (Option Blk)} {v : AV} (hf : P.funcs[f]? = some fn) (hb : fn.body = some c) (hn : args.length ≤ fn.ntmps)
    (h : ∀ w0 F0 hd0, GoS (ownC P f fn w0 F0 hd0 Gl (keyed 0 post) v) [.code c] (LS.start args pre)) : ACalls P Gl f args pre v post :=
  own_calls hf hb hn h

end Go.Abs
/-
  WHAT ONE OPERATION DOES to the abstract memory: the general laws.
-/
set_option linter.unusedVariables false
set_option linter.unusedSimpArgs false
namespace Go.Abs
open Go.RowKit

/-- Blocks are turned, made, or go. -/
theorem inv_upd {C : Ctx} {L : LS} {hd : Nm → Hd} {F : Nat → Prop} {a : Act} {w w' : World} (hi : Inv C L hd F a w) (ups : List (Nm × Option Blk)) (hd' : Nm → Hd) (wr : Nat → Prop)
    (hos : w'.os = w.os) (htape : w'.tape = w.tape) (hout : w'.output = w.output) (hsize : w.heap.size ≤ w'.heap.size)
    (hsame : ∀ k, k < w.heap.size → ¬ wr k → w'.heap[k]? = w.heap[k]?) (hown : ∀ k, wr k → ∃ r, (hd r).owns k)
    (hstay : ∀ s, s ∉ ups.map (·.1) → hd' s = hd s ∧ ∀ k, (hd s).owns k → ¬ wr k) (hups : ∀ s b, upsGet ups s = some b → HoldB w' F hd' s b)
    (hment : ∀ s, s ∈ ups.map (·.1) → hd' s = hd s ∨ hd' s = .dead ∨ (L.Fresh s ∧ ∀ i, s ≠ .arg i))
    (hsep : ∀ r s k, r ≠ s → (hd' r).owns k → ¬ (hd' s).owns k) (hmine : ∀ r k, (hd' r).owns k → ((∃ s, (hd s).owns k) ∨ w.heap.size ≤ k) ∧ k < w'.heap.size) : Inv C (L.upd ups) hd' F a w' := by
  have hF : ∀ k, F k → w'.heap[k]? = w.heap[k]? := fun k hk => hsame k (hi.fin k hk).1 fun hw => by
    obtain ⟨r, hr⟩ := hown k hw
    exact (hi.mine r k hr).1 hk
  have href : ∀ s, ¬ L.Fresh s → hd' s = hd s ∨ hd' s = .dead := fun s hs => by
    by_cases hm : s ∈ ups.map (·.1)
    · rcases hment s hm with h | h | h
      · exact .inl h
      · exact .inr h
      · exact absurd h.1 hs
    · exact .inl (hstay s hm).1
  refine { slots := fun t => ?_, blocks := fun r => ?_, sep := hsep, mine := fun r k hk => ?_, fin := fun k hk => ?_, more := hi.more, kept := fun i => ?_, gl := C.Gl.mono hi.gl hF (fun _ h => h), os := hos.trans hi.os, tape := htape.trans hi.tape, output := hout.trans hi.output, size := Nat.le_trans hi.size hsize, old := fun k hk hm => ?_, ntmps := hi.ntmps, defers := hi.defers }
  · have : (L.upd ups).get t = L.get t := by simp [LS.get, upd_blk]
    rw [this]
    exact (hi.slots t).mono hF (fun _ h => h) fun r hr => href r fun hf => hf.1 t hr
  · rw [upd_get]
    by_cases hr : r ∈ ups.map (·.1)
    · cases hu : upsGet ups r with
      | none =>
        exfalso
        clear hups hment hstay
        induction ups with
        | nil => simp at hr
        | cons x l ih =>
          obtain ⟨k, b⟩ := x
          simp only [upsGet] at hu
          cases hl : upsGet l r with
          | some y => rw [hl] at hu; cases hu
          | none =>
            rw [hl] at hu
            by_cases hk : k = r
            · simp [hk] at hu
            · rcases List.mem_cons.1 hr with h | h
              · exact hk h.symm
              · exact ih h hl
      | some b => exact hups r b hu
    · rw [upsGet_none hr]
      simp only [Option.getD_none]
      obtain ⟨h1, h2⟩ := hstay r hr
      refine (hi.blocks r).mono hF (fun _ h => h) h1 (fun k hk => hsame k (hi.mine r k hk).2.1 (h2 k hk)) fun c hc s hs => href s fun hf => hf.2 r c hc hs
  · obtain ⟨h1, h2⟩ := hmine r k hk
    rcases h1 with ⟨s, hs⟩ | h1
    · obtain ⟨q1, q2, q3⟩ := hi.mine s k hs
      exact ⟨q1, h2, q3⟩
    · exact ⟨fun hk' => by have := (hi.fin k hk').1; omega, h2, .inl (Nat.le_trans hi.size h1)⟩
  · obtain ⟨q1, q2⟩ := hi.fin k hk
    exact ⟨by omega, q2⟩
  · have : hd' (.arg i) = hd (.arg i) ∨ hd' (.arg i) = .dead := by
      by_cases hm : Nm.arg i ∈ ups.map (·.1)
      · rcases hment _ hm with h | h | h
        · exact .inl h
        · exact .inr h
        · exact absurd rfl (h.2 i)
      · exact .inl (hstay _ hm).1
    rcases this with e | e
    · rw [e]; exact hi.kept i
    · exact .inr e
  · rw [← hi.old k hk hm]
    refine hsame k (Nat.lt_of_lt_of_le hk hi.size) fun hw => ?_
    obtain ⟨r, hr⟩ := hown k hw
    rcases (hi.mine r k hr).2.2 with h | h
    · omega
    · exact hm h

/-- From the run of an operation to what it may be taken to do. -/
theorem sem1_of {C : Ctx} {o : Oper} {ev : Operand → AV} {fp : List (Nm × Blk)} {A : Actn} (hdst : ∀ d, o.dst = some d → d < C.fn.ntmps)
    (h : ∀ (L : LS) (hd : Nm → Hd) (F : Nat → Prop) (a : Act) (w : World), (∀ x ∈ o.op.operands.toList, Rep w F hd (ev x) (a.eval x)) → (∀ p ∈ fp, L.blk p.1 = some p.2) → (∀ r ∈ news fp A.ups, L.blk r = none ∧ L.Fresh r) → Inv C L hd F a w →
      ∃ v w' hd' F', ((execOp a.eval o).run C.P w = .ok (.value v) w' ∨ ((execOp a.eval o).run C.P w = .ok .skip w' ∧ v = undef)) ∧ Inv C (L.upd A.ups) hd' F' a w' ∧ Rep w' F' hd' A.v v) : Sem1 C o ev fp A := by
  intro L hd F a w h1 h2 h3 hi K Q hK
  obtain ⟨v, w', hd', F', hrun, hinv, hrep⟩ := h L hd F a w (fun x hx => by rw [← h1 x hx]; exact ev_rep hi x) h2 h3 hi
  have hput : Inv C (L.app o.dst A) hd' F' (a.put o.dst v) w' := hinv.put o.dst hrep hdst
  unfold Oper.wp
  rcases hrun with hrun | ⟨hrun, rfl⟩
  · rw [hrun]; exact hK _ _ _ _ hput
  · rw [hrun]; exact hK _ _ _ _ hput

/-- An operation that only reads. -/
theorem sem1_read {C : Ctx} {o : Oper} {ev : Operand → AV} {fp : List (Nm × Blk)} {x : AV} (hdst : ∀ d, o.dst = some d → d < C.fn.ntmps)
    (h : ∀ (L : LS) (hd : Nm → Hd) (F : Nat → Prop) (a : Act) (w : World), (∀ y ∈ o.op.operands.toList, Rep w F hd (ev y) (a.eval y)) → (∀ p ∈ fp, L.blk p.1 = some p.2) → Inv C L hd F a w →
      ∃ v, (execOp a.eval o).run C.P w = .ok (.value v) w ∧ Rep w F hd x v) : Sem1 C o ev fp ⟨x, []⟩ :=
  sem1_of hdst fun L hd F a w h1 h2 _ hi => by
    obtain ⟨v, hr, hx⟩ := h L hd F a w h1 h2 hi
    exact ⟨v, w, hd, F, .inl hr, hi, hx⟩

/-- What the evaluator answers of an operation. -/
inductive SR where
  | act (fp : List (Nm × Blk)) (A : Actn) (p : Prop)
  | stop
def SRok (C : Ctx) (o : Oper) (L : LS) : SR → Prop
  | .act fp A p => p → Sem1 C o L.ev fp A ∧ (∀ q ∈ fp, L.blk q.1 = some q.2) ∧ ∀ r ∈ news fp A.ups, L.blk r = none ∧ L.Fresh r ∧ r ∈ mayMake1 o
  | .stop => True
theorem SRok.read {C : Ctx} {o : Oper} {L : LS} {x : AV} {p : Prop} (h : p → Sem1 C o L.ev [] ⟨x, []⟩) : SRok C o L (.act [] ⟨x, []⟩ p) := fun hp => ⟨h hp, by simp, by simp [news]⟩
theorem SRok.read1 {C : Ctx} {o : Oper} {L : LS} {x : AV} {p : Prop} {r : Nm} {b : Blk} (hb : L.blk r = some b) (h : p → Sem1 C o L.ev [(r, b)] ⟨x, []⟩) : SRok C o L (.act [(r, b)] ⟨x, []⟩ p) :=
  fun hp => ⟨h hp, by simpa using hb, by simp [news]⟩

theorem rep_val {w : World} {F : Nat → Prop} {hd : Nm → Hd} {u : Value} (h : u.oneCell' = true) : Rep w F hd (.pv (.val u)) u := .pv _ _ (.val u h)

/-! ### moves -/
def stMove (L : LS) (x : Operand) : SR := .act [] ⟨L.ev x, []⟩ True
theorem stMove_ok {C : Ctx} {o : Oper} {L : LS} {x : Operand} (hdst : ∀ d, o.dst = some d → d < C.fn.ntmps) (ho : o.op = .move x ∨ o.op = .assign x) : SRok C o L (stMove L x) := by
  refine .read fun _ => sem1_read hdst fun L' hd F a w hev _ hi => ⟨a.eval x, ?_, hev x ?_⟩
  · rcases ho with h | h <;> simp [execOp, h]
  · rcases ho with h | h <;> simp [h, Op.operands]

def stPick (L : LS) (c x y : Operand) : SR := match L.ev c with
  | .pv (.val (.bool true)) => .act [] ⟨L.ev x, []⟩ True
  | .pv (.val (.bool false)) => .act [] ⟨L.ev y, []⟩ True
  | _ => .stop
theorem stPick_ok {C : Ctx} {o : Oper} {L : LS} {c x y : Operand} (hdst : ∀ d, o.dst = some d → d < C.fn.ntmps) (ho : o.op = .pick c x y) : SRok C o L (stPick L c x y) := by
  unfold stPick
  split
  · rename_i hc
    refine .read fun _ => sem1_read hdst fun L' hd F a w hev _ hi => ⟨a.eval x, ?_, hev x (by simp [ho, Op.operands])⟩
    have := hev c (by simp [ho, Op.operands])
    rw [hc] at this
    simp [execOp, ho, bool_of this, asBool]
  · rename_i hc
    refine .read fun _ => sem1_read hdst fun L' hd F a w hev _ hi => ⟨a.eval y, ?_, hev y (by simp [ho, Op.operands])⟩
    have := hev c (by simp [ho, Op.operands])
    rw [hc] at this
    simp [execOp, ho, bool_of this, asBool]
  · trivial

/-! ### numbers, texts, bools -/
/-- Go's own wrap, under a name that nothing opens. -/
@[irreducible] def wr (k : IntKind) (n : Int) : Int := k.wrap n
theorem wr_eq (k : IntKind) (n : Int) : wr k n = k.wrap n := by unfold wr; rfl
@[irreducible] def bw (op : BinOp) (k : IntKind) (x y : Int) : Int := k.wrap (match op with
  | .and => (BitVec.ofInt k.bits x &&& BitVec.ofInt k.bits y).toNat
  | .or => (BitVec.ofInt k.bits x ||| BitVec.ofInt k.bits y).toNat
  | .xor => (BitVec.ofInt k.bits x ^^^ BitVec.ofInt k.bits y).toNat
  | _ => (BitVec.ofInt k.bits x &&& ~~~(BitVec.ofInt k.bits y)).toNat : Nat)
theorem bw_eq (op : BinOp) (k : IntKind) (x y : Int) : bw op k x y = k.wrap (match op with
  | .and => (BitVec.ofInt k.bits x &&& BitVec.ofInt k.bits y).toNat
  | .or => (BitVec.ofInt k.bits x ||| BitVec.ofInt k.bits y).toNat
  | .xor => (BitVec.ofInt k.bits x ^^^ BitVec.ofInt k.bits y).toNat
  | _ => (BitVec.ofInt k.bits x &&& ~~~(BitVec.ofInt k.bits y)).toNat : Nat) := by unfold bw; rfl

def abin (op : BinOp) (x y : Value) : Option (Value × Prop) := match x, y with
  | .int k a, .int k' b => if k = k' then match op with
      | .add => some (.int k (wr k (a + b)), True)
      | .sub => some (.int k (wr k (a - b)), True)
      | .mul => some (.int k (wr k (a * b)), True)
      | .quo => some (.int k (wr k (a.tdiv b)), b ≠ 0)
      | .rem => some (.int k (a.tmod b), b ≠ 0)
      | .and => some (.int k (bw .and k a b), True)
      | .or => some (.int k (bw .or k a b), True)
      | .xor => some (.int k (bw .xor k a b), True)
      | .andNot => some (.int k (bw .andNot k a b), True)
      | .eql => some (.bool (decide (a = b)), True)
      | .neq => some (.bool (!decide (a = b)), True)
      | .lss => some (.bool (decide (a < b)), True)
      | .leq => some (.bool (decide (a ≤ b)), True)
      | .gtr => some (.bool (decide (a > b)), True)
      | .geq => some (.bool (decide (a ≥ b)), True)
      | _ => none
    else none
  | .string a, .string b => match op with
      | .add => some (.string (a ++ b), a.size + b.size ≤ 9223372036854775807)
      | .eql => some (.bool (decide (a = b)), True)
      | .neq => some (.bool (!decide (a = b)), True)
      | .lss => some (.bool (Op.bytesLess a.toList b.toList), True)
      | .leq => some (.bool (Op.bytesLess a.toList b.toList || decide (a = b)), True)
      | .gtr => some (.bool (!(Op.bytesLess a.toList b.toList || decide (a = b))), True)
      | .geq => some (.bool (!(Op.bytesLess a.toList b.toList)), True)
      | _ => none
  | _, _ => none
theorem beq_toList (a b : ByteArray) : (a.toList == b.toList) = decide (a = b) := by
  by_cases h : a = b
  · subst h; simp
  · have : ¬ a.toList = b.toList := fun e => h (by
      rw [ByteArray.toList_eq, ByteArray.toList_eq] at e
      cases a; cases b; congr 1; exact Array.toList_inj.1 e)
    simp [h, this]
theorem beq_int (a b : Int) : (a == b) = decide (a = b) := rfl
theorem bne_int (a b : Int) : (a != b) = !decide (a = b) := rfl
theorem abin_ok {P : Program} {op : BinOp} {t : TypeId} {x y : Operand} {u v r : Value} {p : Prop} (h : abin op u v = some (r, p)) (hp : p) (w : World) :
    (do eqGuard op t x y u v; binOp op t u v).run P w = .ok r w ∧ r.oneCell' = true := by
  cases u <;> cases v <;> simp only [abin, reduceCtorEq] at h
  · rename_i k a k' b
    by_cases hk : k = k'
    · subst hk
      simp only [if_true] at h
      rw [eqGuard_at_int]
      cases op <;> simp only [reduceCtorEq, Option.some.injEq, Prod.mk.injEq] at h <;> obtain ⟨rfl, rfl⟩ := h <;>
        (try simp only [wr_eq, bw_eq]) <;> first
          | (simp [binOp, Op.intCmp, Value.oneCell', beq_int, bne_int]; done)
          | (simp [binOp, Op.intCmp, Value.oneCell']; rfl)
          | (simp [binOp, Op.intArith, Value.oneCell']; done)
          | (simp [binOp, Op.intDiv, Value.oneCell', hp]; done)
          | (simp [binOp, Op.intBits, Value.oneCell']; done)
    · simp [hk] at h
  · rename_i a b
    rw [eqGuard_at_string]
    cases op <;> simp only [reduceCtorEq, Option.some.injEq, Prod.mk.injEq] at h <;> obtain ⟨rfl, rfl⟩ := h
    · have : ¬ (((a.size + b.size : Nat) : Int) > 9223372036854775807) := by omega
      simp only [binOp, Op.stringOp, pure_bind, IntKind.max_i64, if_neg this]
      simp [Value.oneCell']
    all_goals simp [binOp, Op.stringOp, Value.oneCell', beq_toList]
def isBoolT (T : TT) (t : Nat) : Bool := match lkT T t with
  | some i => match i.und with | .bool => true | _ => false
  | none => false
theorem run_equalIn_bool {P : Program} (d : Nat) {t : Nat} (hu : P.underlying t = some .bool) (a b : Bool) (w : World) : (Op.equalIn (d + 1) t (.bool a) (.bool b)).run P w = .ok (a == b) w := by
  rw [Op.equalIn]
  simp [run_underlying hu]
theorem run_equal_bool {P : Program} {T : TT} (hT : TOk P T) {t : Nat} (h : isBoolT T t = true) (a b : Bool) (w : World) : (Op.equal t (.bool a) (.bool b)).run P w = .ok (a == b) w := by
  unfold isBoolT at h
  cases hl : lkT T t with
  | none => rw [hl] at h; cases h
  | some i =>
    rw [hl] at h
    dsimp only at h
    have hu := (lkT_ok hT hl).und
    cases hi : i.und <;> rw [hi] at h hu <;> simp only [Bool.false_eq_true] at h
    exact run_equalIn_bool 9999 hu a b w
def stBin (T : TT) (L : LS) (op : BinOp) (t : Nat) (x y : Operand) : SR := match L.ev x, L.ev y with
  | .pv (.val (.bool a)), .pv (.val (.bool b)) => if isBoolT T t = true then match op with
    | .eql => .act [] ⟨.pv (.val (.bool (a == b))), []⟩ True
    | .neq => .act [] ⟨.pv (.val (.bool (!(a == b)))), []⟩ True
    | _ => .stop
    else .stop
  | .pv (.val u), .pv (.val v) => match abin op u v with
    | some (r, p) => .act [] ⟨.pv (.val r), []⟩ p
    | none => .stop
  | _, _ => .stop
theorem stBin_ok {C : Ctx} {T : TT} (hT : TOk C.P T) {o : Oper} {L : LS} {op : BinOp} {t ty : TypeId} {x y : Operand} (hdst : ∀ d, o.dst = some d → d < C.fn.ntmps) (ho : o.op = .binOp op t x y ty) : SRok C o L (stBin T L op t x y) := by
  unfold stBin
  split
  · rename_i p q hx hy
    split
    · rename_i hbt
      have hb := run_equal_bool hT hbt
      have key : ∀ (op' : BinOp) (r : Bool), op = op' → (∀ w, (eqGuard op' t x y (.bool p) (.bool q)).run C.P w = .ok () w) → (∀ w, (binOp op' t (.bool p) (.bool q)).run C.P w = .ok (.bool r) w) → SRok C o L (.act [] ⟨.pv (.val (.bool r)), []⟩ True) := by
        intro op' r he hg hrun
        subst he
        refine .read fun _ => sem1_read hdst fun L' hd F a w hev _ hi => ⟨_, ?_, rep_val rfl⟩
        have h1 := hev x (by simp [ho, Op.operands])
        have h2 := hev y (by simp [ho, Op.operands])
        rw [hx] at h1
        rw [hy] at h2
        simp [execOp, ho, bool_of h1, bool_of h2, hg w, hrun w]
      split
      · exact key .eql _ rfl (fun w => by rw [eqGuard_at_bool]; rfl) fun w => by simp [binOp, hb]
      · exact key .neq _ rfl (fun w => by rw [eqGuard_at_bool]; rfl) fun w => by simp [binOp, hb]
      · trivial
    · trivial
  · rename_i u v _ hx hy
    split
    · rename_i r p he
      refine .read fun hp => sem1_read hdst fun L' hd F a w hev _ hi => ?_
      have h1 := hev x (by simp [ho, Op.operands])
      have h2 := hev y (by simp [ho, Op.operands])
      rw [hx] at h1
      rw [hy] at h2
      obtain ⟨q1, q2⟩ := abin_ok (P := C.P) (t := t) (x := x) (y := y) he hp w
      refine ⟨r, ?_, rep_val q2⟩
      simp only [execOp, ho, bool_of h1, bool_of h2, Sem.run_bind] at q1 ⊢
      rw [q1]
      rfl
    · trivial
  · trivial

def stUn (L : LS) (op : UnOp) (x : Operand) : SR := match L.ev x, op with
  | .pv (.val (.bool a)), .not => .act [] ⟨.pv (.val (.bool (!a))), []⟩ True
  | .pv (.val (.int k n)), .neg => .act [] ⟨.pv (.val (.int k (wr k (0 - n)))), []⟩ True
  | _, _ => .stop
theorem stUn_ok {C : Ctx} {o : Oper} {L : LS} {op : UnOp} {t : TypeId} {x : Operand} (hdst : ∀ d, o.dst = some d → d < C.fn.ntmps) (ho : o.op = .unOp op t x) : SRok C o L (stUn L op x) := by
  unfold stUn
  split
  · rename_i hx
    refine .read fun _ => sem1_read hdst fun L' hd F a w hev _ hi => ⟨_, ?_, rep_val rfl⟩
    have h1 := hev x (by simp [ho, Op.operands])
    rw [hx] at h1
    simp [execOp, ho, bool_of h1, Op.unary]
  · rename_i hx
    refine .read fun _ => sem1_read hdst fun L' hd F a w hev _ hi => ⟨_, ?_, rep_val rfl⟩
    have h1 := hev x (by simp [ho, Op.operands])
    rw [hx] at h1
    simp [execOp, ho, bool_of h1, Op.unary, Op.intArith, wr_eq]
  · trivial

/-! ### types, looked up -/
def sliceE (T : TT) (t : Nat) : Option Nat := match lkT T t with
  | some i => match i.und with | .slice e => some e | _ => none
  | none => none
theorem sliceE_ok {P : Program} {T : TT} (hT : TOk P T) {t e : Nat} (h : sliceE T t = some e) : P.underlying t = some (.slice e) := by
  unfold sliceE at h
  cases hl : lkT T t with
  | none => rw [hl] at h; cases h
  | some i =>
    rw [hl] at h
    dsimp only at h
    have hu := (lkT_ok hT hl).und
    cases hi : i.und <;> rw [hi] at h hu <;> simp only [Option.some.injEq, reduceCtorEq] at h
    subst h
    exact hu
def intK (T : TT) (t : Nat) : Option IntKind := match lkT T t with
  | some i => match i.und with | .int k => some k | _ => none
  | none => none
theorem intK_ok {P : Program} {T : TT} (hT : TOk P T) {t : Nat} {k : IntKind} (h : intK T t = some k) : P.underlying t = some (.int k) := by
  unfold intK at h
  cases hl : lkT T t with
  | none => rw [hl] at h; cases h
  | some i =>
    rw [hl] at h
    dsimp only at h
    have hu := (lkT_ok hT hl).und
    cases hi : i.und <;> rw [hi] at h hu <;> simp only [Option.some.injEq, reduceCtorEq] at h
    subst h
    exact hu
def isStrT (T : TT) (t : Nat) : Bool := match lkT T t with
  | some i => match i.und with | .string => true | _ => false
  | none => false
theorem isStrT_ok {P : Program} {T : TT} (hT : TOk P T) {t : Nat} (h : isStrT T t = true) : P.underlying t = some .string := by
  unfold isStrT at h
  cases hl : lkT T t with
  | none => rw [hl] at h; cases h
  | some i =>
    rw [hl] at h
    dsimp only at h
    have hu := (lkT_ok hT hl).und
    cases hi : i.und <;> rw [hi] at h hu <;> simp only [Bool.false_eq_true] at h
    exact hu
/-- A field: where it begins, its type. -/
def fieldT (T : TT) (t f : Nat) : Option (Nat × Nat) := match lkT T t with
  | some i => match i.und with | .str fs => fs[f]? | _ => none
  | none => none
theorem fieldT_ok {P : Program} {T : TT} (hT : TOk P T) {t f off ty : Nat} (h : fieldT T t f = some (off, ty)) : ∃ d fd, P.underlying t = some (.struct d) ∧ d[f]? = some fd ∧ fd.offset = off ∧ fd.type = ty := by
  unfold fieldT at h
  cases hl : lkT T t with
  | none => rw [hl] at h; cases h
  | some i =>
    rw [hl] at h
    dsimp only at h
    have hu := (lkT_ok hT hl).und
    cases hi : i.und <;> rw [hi] at h hu <;> simp only [reduceCtorEq] at h
    obtain ⟨d, h1, h2⟩ := hu
    rw [← h2, List.getElem?_map] at h
    cases hd : d.toList[f]? with
    | none => rw [hd] at h; cases h
    | some fd =>
      rw [hd] at h
      simp only [Option.map_some, Option.some.injEq, Prod.mk.injEq] at h
      exact ⟨d, fd, h1, by simpa using hd, h.1, h.2⟩
/-! ### conversions of numbers -/
def stConv (T : TT) (L : LS) (s d : Nat) (x : Operand) : SR := match L.ev x with
  | .pv (.val (.int _ n)) => match intK T s with
    | some _ => match intK T d with
      | some k => .act [] ⟨.pv (.val (.int k (wr k n))), []⟩ True
      | none => if isStrT T d = true then .act [] ⟨.pv (.val (.string (Utf8.encode n))), []⟩ True else .stop
    | none => .stop
  | .pv (.val (.string u)) => if isStrT T s = true then (if isStrT T d = true then .act [] ⟨.pv (.val (.string u)), []⟩ True else .stop) else .stop
  | _ => .stop
theorem stConv_ok {C : Ctx} {T : TT} (hT : TOk C.P T) {o : Oper} {L : LS} {s d : TypeId} {x : Operand} (hdst : ∀ d, o.dst = some d → d < C.fn.ntmps) (ho : o.op = .convert s d x) : SRok C o L (stConv T L s d x) := by
  unfold stConv
  split
  · rename_i hx
    split
    · rename_i k' h1
      split
      · rename_i k h2
        refine .read fun _ => sem1_read hdst fun L' hd F a w hev _ hi => ⟨_, ?_, rep_val rfl⟩
        have h3 := hev x (by simp [ho, Op.operands])
        rw [hx] at h3
        simp [execOp, ho, bool_of h3, convert, run_underlying (intK_ok hT h1), run_underlying (intK_ok hT h2), Conv.intToInt, wr_eq]
      · split
        · rename_i h2
          refine .read fun _ => sem1_read hdst fun L' hd F a w hev _ hi => ⟨_, ?_, rep_val rfl⟩
          have h3 := hev x (by simp [ho, Op.operands])
          rw [hx] at h3
          simp [execOp, ho, bool_of h3, convert, run_underlying (intK_ok hT h1), run_underlying (isStrT_ok hT h2), Conv.intToString]
        · trivial
    · trivial
  · rename_i hx
    split
    · rename_i h1
      split
      · rename_i h2
        refine .read fun _ => sem1_read hdst fun L' hd F a w hev _ hi => ⟨_, ?_, rep_val rfl⟩
        have h3 := hev x (by simp [ho, Op.operands])
        rw [hx] at h3
        simp [execOp, ho, bool_of h3, convert, run_underlying (isStrT_ok hT h1), run_underlying (isStrT_ok hT h2)]
      · trivial
    · trivial
  · trivial

end Go.Abs
