/-
  WHAT ONE OPERATION DOES to the abstract memory: variables, fields, elements, rows.
-/
import Derived.Test.YtciibpfhjfegnaaGreatDoorAbsD
set_option linter.unusedVariables false
set_option linter.unusedSimpArgs false
namespace Go.Abs
open Go.RowKit

/-- The cells of a value. -/
def AV.cellsOf : AV → Option (List AV)
  | .agg l => some l
  | .tup _ => none
  | .any => none
  | x => some [x]
theorem cellsOf_rep {w : World} {F : Nat → Prop} {hd : Nm → Hd} {x : AV} {v : Value} (h : Rep w F hd x v) {l : List AV} (hl : x.cellsOf = some l) :
    v.cells.size = l.length ∧ (∀ (j : Nat) (c : AV) (u : Value), l[j]? = some c → v.cells[j]? = some u → Rep w F hd c u) ∧ ∀ u ∈ v.cells.toList, u.oneCell' = true := by
  have one : ∀ (x : AV) (v : Value), Rep w F hd x v → v.oneCell' = true → v.cells.size = [x].length ∧ (∀ (j : Nat) (c : AV) (u : Value), [x][j]? = some c → v.cells[j]? = some u → Rep w F hd c u) ∧ ∀ u ∈ v.cells.toList, u.oneCell' = true := by
    intro x v h h1
    have : v.cells = #[v] := by cases v <;> first | rfl | simp [Value.oneCell'] at h1
    rw [this]
    refine ⟨rfl, fun j c u hj hu => ?_, by simp [h1]⟩
    cases j with
    | zero => simp at hj hu; subst hj hu; exact h
    | succ j => simp at hj
  cases h with
  | pv p v hp => simp only [AV.cellsOf, Option.some.injEq] at hl; subst hl; exact one _ _ (.pv p v hp) hp.one
  | agg l' cs h1 h2 h3 =>
    simp only [AV.cellsOf, Option.some.injEq] at hl
    subst hl
    exact ⟨by simpa [Value.cells] using h1, fun j c u hj hu => h2 j c u hj (by simpa [Value.cells] using hu), by simpa [Value.cells] using h3⟩
  | tup => simp [AV.cellsOf] at hl
  | own r v h1 h2 => simp only [AV.cellsOf, Option.some.injEq] at hl; subst hl; exact one _ _ (.own r v h1 h2) h1
  | ptr r o v h1 h2 => simp only [AV.cellsOf, Option.some.injEq] at hl; subst hl; exact one _ _ (.ptr r o v h1 h2) h1
  | ept r sz i f v h1 h2 => simp only [AV.cellsOf, Option.some.injEq] at hl; subst hl; exact one _ _ (.ept r sz i f v h1 h2) h1
  | rop cs ad u a b c d => simp only [AV.cellsOf, Option.some.injEq] at hl; subst hl; exact one _ _ (.rop cs ad u a b c d) rfl
  | fn f a b va vb q1 q2 q3 q4 => simp only [AV.cellsOf, Option.some.injEq] at hl; subst hl; exact one _ _ (.fn f a b va vb q1 q2 q3 q4) rfl
  | hmap r v h1 h2 => simp only [AV.cellsOf, Option.some.injEq] at hl; subst hl; exact one _ _ (.hmap r v h1 h2) h1
  | rom Q k o h1 h2 h3 => simp only [AV.cellsOf, Option.some.injEq] at hl; subst hl; exact one _ _ (.rom Q k o h1 h2 h3) rfl
  | opq Q v h1 h2 => simp only [AV.cellsOf, Option.some.injEq] at hl; subst hl; exact one _ _ (.opq Q v h1 h2) h1
  | any => simp [AV.cellsOf] at hl
theorem add_plain (g j : Nat) : (⟨g, 0, none⟩ : Addr).add j = ⟨g, j, none⟩ := by unfold Addr.add; split <;> simp_all
theorem add_at (g o j : Nat) : (⟨g, o, none⟩ : Addr).add j = ⟨g, o + j, none⟩ := by unfold Addr.add; split <;> simp_all
theorem cell_at {w : World} {k j : Nat} {arr : Array Value} {ty : TypeId} {fr : Nat × Nat} (h : w.heap[k]? = some (.cells arr ty fr)) : w.cell? ⟨k, j, none⟩ = arr[j]? := by simp [World.cell?, h]

/-- A new variable. -/
theorem inv_new {C : Ctx} {L : LS} {hd : Nm → Hd} {F : Nat → Prop} {a : Act} {w : World} (hi : Inv C L hd F a w) {r : Nm} (hna : ∀ i, r ≠ .arg i) (hb : L.blk r = none) (hf : L.Fresh r) {v : Value} {cs : List AV} (ty : TypeId)
    (h1 : v.cells.size = cs.length) (h2 : ∀ (j : Nat) (c : AV) (u : Value), cs[j]? = some c → v.cells[j]? = some u → Rep w F hd c u) (h3 : ∀ u ∈ v.cells.toList, u.oneCell' = true) (hm : r ∉ AV.ments.mentsL cs) :
    ∃ hd', Inv C (L.upd [(r, some (.box ty cs))]) hd' F a (w.alloc (.cells v.cells ty)) ∧ Rep (w.alloc (.cells v.cells ty)) F hd' (.ptr r 0) (.pointer (some ⟨w.heap.size, 0, none⟩)) := by
  have hdead : hd r = .dead := by have := hi.blocks r; rw [hb] at this; exact this
  have hold : ∀ k, k < w.heap.size → (w.alloc (.cells v.cells ty)).heap[k]? = w.heap[k]? := fun k hk => Below.heap_alloc _ _ _ hk
  refine ⟨fun s => if s = r then .box w.heap.size else hd s, inv_upd hi _ _ (fun _ => False) rfl rfl rfl (by simp) (fun k hk _ => hold k hk) (fun k h => h.elim) (fun s hs => ?_) (fun s b hs => ?_) (fun s hs => ?_) (fun r' s k hne h1 h2 => ?_) (fun r' k hk => ?_), ?_⟩
  · have : s ≠ r := fun e => hs (by simp [e])
    simp [this]
  · by_cases hsr : s = r
    · subst hsr
      simp only [upsGet, if_true, Option.some.injEq] at hs
      subst hs
      refine ⟨w.heap.size, v.cells, by simp, heap_alloc_new w _, h1, fun j c u hj hu => ?_, h3⟩
      refine (h2 j c u hj hu).mono (fun k hk => hold k (hi.fin k hk).1) (fun _ h => h) fun q hq => ?_
      have : q ≠ s := fun e => hm (e ▸ mem_mentsL hj hq)
      simp [this]
    · have : r ≠ s := fun e => hsr e.symm
      simp [upsGet, this] at hs
  · simp at hs
    subst hs
    exact .inr (.inr ⟨hf, hna⟩)
  · by_cases e1 : r' = r
    · by_cases e2 : s = r
      · exact hne (e1.trans e2.symm)
      · rw [if_pos e1] at h1
        rw [if_neg e2] at h2
        have := (hi.mine s k h2).2.1
        have h1 : w.heap.size = k := h1
        omega
    · rw [if_neg e1] at h1
      by_cases e2 : s = r
      · rw [if_pos e2] at h2
        have := (hi.mine r' k h1).2.1
        have h2 : w.heap.size = k := h2
        omega
      · rw [if_neg e2] at h2
        exact hi.sep r' s k hne h1 h2
  · by_cases e1 : r' = r
    · rw [if_pos e1] at hk
      have hk : w.heap.size = k := hk
      exact ⟨.inr (by omega), by simp [← hk]⟩
    · rw [if_neg e1] at hk
      have := (hi.mine r' k hk).2.1
      exact ⟨.inl ⟨r', hk⟩, by simp; omega⟩
  · exact .ptr r 0 _ rfl fun k hk => by
      simp only [if_true] at hk
      injection hk with hk
      rw [hk]

def newOk (L : LS) (r : Nm) : Bool := (match L.blk r with | none => true | some _ => false) && L.freshB r
theorem newOk_spec {L : LS} {r : Nm} (h : newOk L r = true) : L.blk r = none ∧ L.Fresh r := by
  simp only [newOk, Bool.and_eq_true] at h
  refine ⟨?_, LS.fresh_of h.2⟩
  cases hb : L.blk r with
  | none => rfl
  | some b => rw [hb] at h; simp at h

def stBox (L : LS) (dst : Option Nat) (t : Nat) (x : Operand) : SR := match dst with
  | some d => match (L.ev x).cellsOf with
    | some cs => if newOk L (.loc d) = true then (if notIn (.loc d) (AV.ments.mentsL cs) = true then .act [] ⟨.ptr (.loc d) 0, [(.loc d, some (.box t cs))]⟩ True else .stop) else .stop
    | none => .stop
  | none => .stop
theorem stBox_ok {C : Ctx} {o : Oper} {L : LS} {t : TypeId} {x : Operand} (hdst : ∀ d, o.dst = some d → d < C.fn.ntmps) (ho : o.op = .box t x) : SRok C o L (stBox L o.dst t x) := by
  unfold stBox
  cases hd : o.dst with
  | none => trivial
  | some d =>
    dsimp only
    split
    · rename_i cs hcs
      split
      · rename_i hn
        split
        · rename_i hni
          intro _
          obtain ⟨n1, n2⟩ := newOk_spec hn
          refine ⟨sem1_of hdst fun L' hd' F a w hev hfp hnew hi => ?_, by simp, fun r hr => ?_⟩
          · obtain ⟨m1, m2⟩ := hnew (.loc d) (by simp [news])
            have hx := hev x (by simp [ho, Op.operands])
            obtain ⟨c1, c2, c3⟩ := cellsOf_rep hx hcs
            obtain ⟨hd'', h1, h2⟩ := inv_new hi (by simp) m1 m2 t c1 c2 c3 ((notIn_iff _ _).1 hni)
            refine ⟨_, _, hd'', F, .inl ?_, h1, h2⟩
            simp [execOp, ho, Instr.box, newVar, newRow]
          · simp [news] at hr
            subst hr
            exact ⟨n1, n2, by simp [mayMake1, hd, ho, makes]⟩
        · trivial
      · trivial
    · trivial

def stAlloc (T : TT) (L : LS) (dst : Option Nat) (t : Nat) : SR := match dst with
  | some d => match lkT T t with
    | some i => if newOk L (.loc d) = true then .act [] ⟨.ptr (.loc d) 0, [(.loc d, some (.box t (i.zero.map .pv)))]⟩ True else .stop
    | none => .stop
  | none => .stop
theorem mentsL_pv (l : List PV) : AV.ments.mentsL (l.map .pv) = [] := by induction l <;> simp [AV.ments.mentsL, AV.ments, *]
theorem zero_rep {P : Program} {t : Nat} {i : TI} (ok : TOk1 P t i) (w : World) (F : Nat → Prop) : ∀ (j : Nat) (p : PV) (v : Value), i.zero[j]? = some p → (i.zero.map PV.raw)[j]? = some v → RepP w F p v := by
  intro j p v hj hv
  rw [List.getElem?_map, hj] at hv
  simp only [Option.map_some, Option.some.injEq] at hv
  subst hv
  rcases ok.zero p (List.mem_of_getElem? hj) with ⟨u, rfl, hu⟩ | ⟨sz, rfl⟩
  · exact .val u hu
  · exact .nilS sz
theorem stAlloc_ok {C : Ctx} {T : TT} (hT : TOk C.P T) {o : Oper} {L : LS} {t : TypeId} (hdst : ∀ d, o.dst = some d → d < C.fn.ntmps) (ho : o.op = .alloc t) : SRok C o L (stAlloc T L o.dst t) := by
  unfold stAlloc
  cases hd : o.dst with
  | none => trivial
  | some d =>
    dsimp only
    split
    · rename_i i hli
      split
      · rename_i hn
        intro _
        obtain ⟨n1, n2⟩ := newOk_spec hn
        have ok := lkT_ok hT hli
        obtain ⟨inf, z, j1, j2, j3, j4, j5, j6⟩ := ok.info
        refine ⟨sem1_of hdst fun L' hd' F a w hev hfp hnew hi => ?_, by simp, fun r hr => ?_⟩
        · obtain ⟨m1, m2⟩ := hnew (.loc d) (by simp [news])
          have hcs : z.cells = (i.zero.map PV.raw).toArray := by rw [← j5]
          obtain ⟨hd'', h1, h2⟩ := inv_new (v := z) (cs := i.zero.map .pv) hi (by simp) m1 m2 t (by simp [hcs]) (fun j c u hj hu => by
            rw [List.getElem?_map] at hj
            cases hz : i.zero[j]? with
            | none => rw [hz] at hj; cases hj
            | some p =>
              rw [hz] at hj
              cases hj
              rw [hcs] at hu
              exact .pv _ _ (zero_rep ok w F j p u hz (by simpa using hu))) (fun u hu => by
            rw [j5] at hu
            obtain ⟨p, hp, rfl⟩ := List.mem_map.1 hu
            rcases ok.zero p hp with ⟨u', rfl, hu'⟩ | ⟨sz, rfl⟩
            · exact hu'
            · rfl) (by rw [mentsL_pv]; simp)
          refine ⟨_, _, hd'', F, .inl ?_, h1, h2⟩
          simp [execOp, ho, Instr.alloc, zeroValue, typeInfo, j1, j4, newVar, newRow]
        · simp [news] at hr
          subst hr
          exact ⟨n1, n2, by simp [mayMake1, hd, ho, makes]⟩
      · trivial
    · trivial

/-! ### loads -/
def takeAt (i : TI) (cs : List AV) (off : Nat) : Option AV :=
  if i.agg = true then (if ((cs.drop off).take i.size).length = i.size then some (.agg ((cs.drop off).take i.size)) else none) else cs[off]?
def stLoad (T : TT) (L : LS) (t : Nat) (x : Operand) : SR := match lkT T t with
  | some i => match L.ev x with
    | .ptr r off => match L.blk r with
      | some (.box ty cs) => match takeAt i cs off with
        | some v => .act [(r, .box ty cs)] ⟨v, []⟩ True
        | none => .stop
      | _ => .stop
    | .rop cs => match takeAt i (cs.map .pv) 0 with
      | some v => .act [] ⟨v, []⟩ True
      | none => .stop
    | .ept r sz k f => match L.blk r with
      | some (.row e sz' es) => if Nat.beq sz sz' = true then match es[k]? with
        | some el => match takeAt i (el.map .pv) f with
          | some v => .act [(r, .row e sz' es)] ⟨v, []⟩ True
          | none => .stop
        | none => .stop
        else .stop
      | _ => .stop
    | _ => .stop
  | none => .stop
theorem run_loadAt {P : Program} {T : TT} (hT : TOk P T) {t : Nat} {i : TI} (hl : lkT T t = some i) {w : World} {F : Nat → Prop} {hd : Nm → Hd} {ad : Addr} {cs : List AV} {off : Nat} {x : AV} (u : Nat → Value)
    (hc : ∀ (j : Nat) (c : AV), cs[off + j]? = some c → w.cell? (ad.add j) = some (u j) ∧ Rep w F hd c (u j) ∧ (u j).oneCell' = true) (h : takeAt i cs off = some x) :
    ∃ v, (loadVar t ad).run P w = .ok v w ∧ Rep w F hd x v := by
  have ok := lkT_ok hT hl
  obtain ⟨inf, z, j1, j2, _⟩ := ok.info
  unfold takeAt at h
  cases hag : i.agg with
  | true =>
    rw [hag] at h
    simp only [if_true] at h
    split at h
    · rename_i hsz
      cases h
      have hidx : ∀ j, j < i.size → ∃ c, cs[off + j]? = some c ∧ ((cs.drop off).take i.size)[j]? = some c := by
        intro j hj
        have : j < ((cs.drop off).take i.size).length := by omega
        refine ⟨((cs.drop off).take i.size)[j], ?_, List.getElem?_eq_getElem this⟩
        have h2 := List.getElem?_eq_getElem this
        rw [List.getElem?_take] at h2
        simp only [hj, if_true] at h2
        rw [List.getElem?_drop] at h2
        exact h2
      have hload := run_loadCells (P := P) w ad i.size u (fun j hj => by
        obtain ⟨c, h1, _⟩ := hidx j hj
        exact (hc j c h1).1)
      refine ⟨.agg ((List.range i.size).map u).toArray, by simp [loadVar, ok.agg w, hag, sizeOf, typeInfo, j1, j2, hload], .agg _ _ (by simp [hsz]) (fun j c v hj hv => ?_) (fun v hv => ?_)⟩
      · have hjl : j < i.size := by have := (List.getElem?_eq_some_iff.1 hj).1; omega
        obtain ⟨c', h1, h2⟩ := hidx j hjl
        rw [h2] at hj
        cases hj
        simp [hjl] at hv
        subst hv
        exact (hc j c h1).2.1
      · obtain ⟨j, hj, rfl⟩ := List.mem_map.1 hv
        obtain ⟨c, h1, _⟩ := hidx j (List.mem_range.1 hj)
        exact (hc j c h1).2.2
    · cases h
  | false =>
    rw [hag] at h
    simp only [Bool.false_eq_true, if_false] at h
    obtain ⟨h1, h2, h3⟩ := hc 0 x (by simpa using h)
    have hadd : ad.add 0 = ad := by simp [Addr.add]
    rw [hadd] at h1
    exact ⟨u 0, by simp [loadVar, ok.agg w, hag, h1], h2⟩
theorem stLoad_ok {C : Ctx} {T : TT} (hT : TOk C.P T) {o : Oper} {L : LS} {t : TypeId} {x : Operand} (hdst : ∀ d, o.dst = some d → d < C.fn.ntmps) (ho : o.op = .load t x) : SRok C o L (stLoad T L t x) := by
  unfold stLoad
  split
  · rename_i i hli
    split
    · rename_i r off hx
      split
      · rename_i ty cs hb
        split
        · rename_i v hv
          refine .read1 hb fun _ => sem1_read hdst fun L' hd F a w hev hfp hi => ?_
          have h1 := hev x (by simp [ho, Op.operands])
          rw [hx] at h1
          have h2 := hi.blocks r
          rw [hfp (r, .box ty cs) (by simp)] at h2
          obtain ⟨k, arr, q1, q2, q3, q4, q5⟩ := h2
          have hp : a.eval x = .pointer (some ⟨k, off, none⟩) := by cases h1 with | ptr _ _ _ _ hp => exact hp k q1
          obtain ⟨v', r1, r2⟩ := run_loadAt (P := C.P) hT hli (w := w) (F := F) (hd := hd) (ad := ⟨k, off, none⟩) (cs := cs) (off := off) (x := v) (fun j => arr.toList.getD (off + j) undef) (fun j c hj => by
            have hlt : off + j < arr.size := by rw [q3]; exact (List.getElem?_eq_some_iff.1 hj).1
            have hg : arr.toList.getD (off + j) undef = arr[off + j] := by simp [List.getD_eq_getElem?_getD, hlt]
            rw [hg, add_at, cell_at q2]
            exact ⟨by simp [hlt], q4 _ c _ hj (by simp [hlt]), q5 _ (by simp)⟩) hv
          exact ⟨v', by simp [execOp, ho, hp, Instr.loadAt, Instr.sureAddr, r1], r2⟩
        · trivial
      · trivial
    · rename_i cs hx
      split
      · rename_i v hv
        refine .read fun _ => sem1_read hdst fun L' hd F a w hev hfp hi => ?_
        have h1 := hev x (by simp [ho, Op.operands])
        rw [hx] at h1
        generalize hz : a.eval x = z at h1
        cases h1 with
        | rop _ ad u hs hF hc hr =>
          obtain ⟨v', r1, r2⟩ := run_loadAt (P := C.P) hT hli (w := w) (F := F) (hd := hd) (ad := ad) (cs := cs.map .pv) (off := 0) (x := v) u (fun j c hj => by
            rw [Nat.zero_add, List.getElem?_map] at hj
            cases hcj : cs[j]? with
            | none => rw [hcj] at hj; cases hj
            | some p =>
              rw [hcj] at hj
              cases hj
              exact ⟨hc j p hcj, .pv _ _ (hr j p hcj), (hr j p hcj).one⟩) hv
          exact ⟨v', by simp [execOp, ho, hz, Instr.loadAt, Instr.sureAddr, r1], r2⟩
      · trivial
    · rename_i r sz k f hx
      split
      · rename_i e sz' es hb
        split
        · rename_i hsz
          rw [Nat.beq_eq] at hsz
          subst hsz
          split
          · rename_i el hel
            split
            · rename_i v hv
              refine .read1 hb fun _ => sem1_read hdst fun L' hd F a w hev hfp hi => ?_
              have h1 := hev x (by simp [ho, Op.operands])
              rw [hx] at h1
              have h2 := hi.blocks r
              rw [hfp (r, .row e sz es) (by simp)] at h2
              obtain ⟨u, cells, q1, q2, q3, q4, q5⟩ := h2
              have hk : k < es.length := (List.getElem?_eq_some_iff.1 hel).1
              have hown := q2
              rcases q2.2 with ⟨_, hn⟩ | ⟨g, cap, cur, rfl, _, hg, _, _, hcs, htk⟩
              · omega
              · have hp : a.eval x = .pointer (some ⟨g, k * sz + f, none⟩) := by cases h1 with | ept _ _ _ _ _ _ hp => exact hp g _ _ q1
                have hell := q3 k el hel
                obtain ⟨v', r1, r2⟩ := run_loadAt (P := C.P) hT hli (w := w) (F := F) (hd := hd) (ad := ⟨g, k * sz + f, none⟩) (cs := el.map .pv) (off := f) (x := v) (fun j => cells.getD (k * sz + (f + j)) undef) (fun j c hj => by
                  rw [List.getElem?_map] at hj
                  cases hcj : el[f + j]? with
                  | none => rw [hcj] at hj; cases hj
                  | some p =>
                    rw [hcj] at hj
                    cases hj
                    have hjl : f + j < sz := by rw [← hell]; exact (List.getElem?_eq_some_iff.1 hcj).1
                    have hlt : k * sz + (f + j) < cells.length := by
                      rw [q2.1]
                      calc k * sz + (f + j) < k * sz + sz := by omega
                        _ = (k + 1) * sz := by rw [Nat.add_mul, Nat.one_mul]
                        _ ≤ es.length * sz := Nat.mul_le_mul_right _ hk
                    have hg' : cells[k * sz + (f + j)]? = some (cells.getD (k * sz + (f + j)) undef) := by
                      rw [List.getD_eq_getElem?_getD, List.getElem?_eq_getElem hlt]; rfl
                    have hcell := World.ownsRow.cells hown (g := g) rfl _ _ hg'
                    rw [add_plain] at hcell
                    rw [add_at, show k * sz + f + j = k * sz + (f + j) by omega]
                    exact ⟨hcell, .pv _ _ (q4 k (f + j) el p _ hel hcj hg'), q5 _ (List.mem_of_getElem? hg')⟩) hv
                exact ⟨v', by simp [execOp, ho, hp, Instr.loadAt, Instr.sureAddr, r1], r2⟩
            · trivial
          · trivial
        · trivial
      · trivial
    · trivial
  · trivial

end Go.Abs
/-
  WHAT ONE OPERATION DOES to the abstract memory: stores, fields, lengths, bytes, tuples, structs.
-/
set_option linter.unusedVariables false
set_option linter.unusedSimpArgs false
namespace Go.Abs
open Go.RowKit

/-! ### stores into a variable -/
def putAt (cs : List AV) (off : Nat) (l : List AV) : List AV := cs.take off ++ l ++ cs.drop (off + l.length)
/-- One of the call's own variables is written. -/
theorem inv_store {C : Ctx} {L : LS} {hd : Nm → Hd} {F : Nat → Prop} {a : Act} {w : World} (hi : Inv C L hd F a w) {r : Nm} {ty : Nat} {cs : List AV} (hb : L.blk r = some (.box ty cs)) {v : Value} {l : List AV} {off : Nat}
    (h1 : v.cells.size = l.length) (h2 : ∀ (j : Nat) (c : AV) (u : Value), l[j]? = some c → v.cells[j]? = some u → Rep w F hd c u) (h3 : ∀ u ∈ v.cells.toList, u.oneCell' = true) (hfit : off + l.length ≤ cs.length) {k : Nat} (hk : hd r = .box k) :
    ∃ w', (storeCells ⟨k, off, none⟩ v.cells.toList).run C.P w = .ok () w' ∧ Inv C (L.upd [(r, some (.box ty (putAt cs off l)))]) hd F a w' := by
  have hblk := hi.blocks r
  rw [hb] at hblk
  obtain ⟨k', arr, q1, q2, q3, q4, q5⟩ := hblk
  obtain rfl : k = k' := by rw [hk] at q1; injection q1
  have hst := run_storeCells_at C.P k off ty v.cells.toList 0 arr w q2 (by simp [h1, q3]; omega) h3
  refine ⟨_, hst, ?_⟩
  have hother : ∀ j, j ≠ k → (w.setRow k (arr.toList.take (off + 0) ++ v.cells.toList ++ arr.toList.drop (off + 0 + v.cells.toList.length)).toArray).heap[j]? = w.heap[j]? := fun j hj => setRow_other w k j _ hj
  have hnF : ¬ F k := (hi.mine r k (by rw [hk]; exact rfl)).1
  refine inv_upd hi _ hd (fun j => j = k) rfl rfl rfl (by simp) (fun j _ hj => hother j hj) (fun j hj => ⟨r, by rw [hk]; exact hj.symm⟩) (fun s hs => ⟨rfl, fun j hj hjk => ?_⟩) (fun s b hs => ?_) (fun s _ => .inl rfl) hi.sep (fun r' j hj => ⟨.inl ⟨r', hj⟩, ?_⟩)
  · have hne : s ≠ r := fun e => hs (by simp [e])
    exact hi.sep s r j hne hj (by rw [hk]; exact hjk.symm)
  · by_cases hsr : s = r
    · subst hsr
      simp only [upsGet, if_true, Option.some.injEq] at hs
      subst hs
      refine ⟨k, _, hk, setRow_heap w k arr _ ty _ q2, ?_, fun j c u hj hu => ?_, fun u hu => ?_⟩
      · simp only [List.size_toArray, List.length_append, List.length_take, List.length_drop, Array.length_toList, putAt]
        omega
      · have hmono : ∀ (c : AV) (u : Value), Rep w F hd c u → Rep (w.setRow k (arr.toList.take (off + 0) ++ v.cells.toList ++ arr.toList.drop (off + 0 + v.cells.toList.length)).toArray) F hd c u := fun c u hc =>
          hc.mono (fun j hj => hother j (fun e => hnF (e ▸ hj))) (fun _ h => h) (fun _ _ => .inl rfl)
        apply hmono
        rw [List.getElem?_toArray] at hu
        unfold putAt at hj
        have hlen1 : (cs.take off).length = off := by simp; omega
        have hlen2 : (arr.toList.take (off + 0)).length = off := by simp; omega
        rw [List.append_assoc, List.getElem?_append] at hj hu
        rw [hlen1] at hj
        rw [hlen2] at hu
        by_cases hjo : j < off
        · rw [if_pos hjo] at hj hu
          rw [List.getElem?_take, if_pos hjo] at hj
          rw [List.getElem?_take, if_pos (by omega)] at hu
          exact q4 j c u hj (by simpa using hu)
        · rw [if_neg hjo] at hj hu
          rw [List.getElem?_append] at hj hu
          have hvl : v.cells.toList.length = l.length := by simpa using h1
          rw [hvl] at hu
          by_cases hjl : j - off < l.length
          · rw [if_pos hjl] at hj hu
            exact h2 _ c u hj (by simpa using hu)
          · rw [if_neg hjl] at hj hu
            rw [List.getElem?_drop] at hj hu
            refine q4 _ c u hj ?_
            simpa using hu
      · have hu' : u ∈ arr.toList.take (off + 0) ++ v.cells.toList ++ arr.toList.drop (off + 0 + v.cells.toList.length) := hu
        rcases List.mem_append.1 hu' with h | h
        · rcases List.mem_append.1 h with h | h
          · exact q5 u (List.mem_of_mem_take h)
          · exact h3 u h
        · exact q5 u (List.mem_of_mem_drop h)
    · have : r ≠ s := fun e => hsr e.symm
      simp [upsGet, this] at hs
  · have := (hi.mine r' j hj).2.1
    simpa using this

def stStore (T : TT) (L : LS) (t : Nat) (x y : Operand) : SR := match lkT T t with
  | some i => match L.ev x with
    | .ptr r off => match L.blk r with
      | some (.box ty cs) => match (L.ev y).cellsOf with
        | some l => if l.length = i.size then (if off + l.length ≤ cs.length then .act [(r, .box ty cs)] ⟨.any, [(r, some (.box ty (putAt cs off l)))]⟩ True else .stop) else .stop
        | none => .stop
      | _ => .stop
    | _ => .stop
  | none => .stop
theorem stStore_ok {C : Ctx} {T : TT} (hT : TOk C.P T) {o : Oper} {L : LS} {t : TypeId} {x y : Operand} (hdst : ∀ d, o.dst = some d → d < C.fn.ntmps) (ho : o.op = .store t x y) : SRok C o L (stStore T L t x y) := by
  unfold stStore
  split
  · rename_i i hli
    split
    · rename_i r off hx
      split
      · rename_i ty cs hb
        split
        · rename_i l hl
          split
          · rename_i hsz
            split
            · rename_i hfit
              intro _
              refine ⟨sem1_of hdst fun L' hd F a w hev hfp hnew hi => ?_, by simpa using hb, fun q hq => by simp [news, Nm.eqb_iff] at hq⟩
              have h1 := hev x (by simp [ho, Op.operands])
              rw [hx] at h1
              have hb' := hfp (r, .box ty cs) (by simp)
              have h2 := hi.blocks r
              rw [hb'] at h2
              obtain ⟨k, arr, q1, q2, q3, q4, q5⟩ := h2
              have hp : a.eval x = .pointer (some ⟨k, off, none⟩) := by cases h1 with | ptr _ _ _ _ hp => exact hp k q1
              obtain ⟨c1, c2, c3⟩ := cellsOf_rep (hev y (by simp [ho, Op.operands])) hl
              obtain ⟨w', r1, r2⟩ := inv_store (C := C) hi hb' c1 c2 c3 hfit q1
              obtain ⟨inf, z, j1, j2, _⟩ := (lkT_ok hT hli).info
              refine ⟨_, w', hd, F, .inr ⟨?_, rfl⟩, r2, .any _⟩
              have hs : (a.eval y).cells.size = inf.size := by rw [c1, hsz, j2]
              simp [execOp, ho, hp, Instr.storeAt, Instr.sureAddr, storeVar, sizeOf, typeInfo, j1, hs, r1]
            · trivial
          · trivial
        · trivial
      · trivial
    · trivial
  · trivial

/-! ### fields -/
def stFieldAddr (T : TT) (L : LS) (t : Nat) (x : Operand) (f : Nat) : SR := match fieldT T t f with
  | some (off, ty) => match lkT T ty with
    | some _ => match L.ev x with
      | .ptr r o => match L.blk r with
        | some (.box ty cs) => .act [(r, .box ty cs)] ⟨.ptr r (o + off), []⟩ True
        | _ => .stop
      | .rop cs => .act [] ⟨.rop (cs.drop off), []⟩ True
      | _ => .stop
    | none => .stop
  | none => .stop
theorem run_fieldAt {P : Program} {T : TT} (hT : TOk P T) {t f off ty : Nat} {i : TI} (h : fieldT T t f = some (off, ty)) (hl : lkT T ty = some i) (ad : Addr) (w : World) : (Instr.fieldAt t (.pointer (some ad)) f).run P w = .ok (.pointer (some (ad.add off))) w := by
  obtain ⟨d, fd, h1, h2, h3, h4⟩ := fieldT_ok hT h
  have ok := lkT_ok hT hl
  obtain ⟨inf, z, j1, j2, _⟩ := ok.info
  subst h3 h4
  have hs : ¬ inf.size = 0 := by have := ok.one; omega
  simp [Instr.fieldAt, run_underlying h1, h2, Instr.sureAddr, fieldPlace, sizeOf, typeInfo, j1, hs]
theorem stFieldAddr_ok {C : Ctx} {T : TT} (hT : TOk C.P T) {o : Oper} {L : LS} {t : TypeId} {x : Operand} {f : Nat} (hdst : ∀ d, o.dst = some d → d < C.fn.ntmps) (ho : o.op = .fieldAddr t x f) : SRok C o L (stFieldAddr T L t x f) := by
  unfold stFieldAddr
  split
  · rename_i off ty hf
    split
    · rename_i i hl
      split
      · rename_i r q hx
        split
        · rename_i ty' cs hb
          refine .read1 hb fun _ => sem1_read hdst fun L' hd F a w hev hfp hi => ?_
          have h1 := hev x (by simp [ho, Op.operands])
          rw [hx] at h1
          have h2 := hi.blocks r
          rw [hfp (r, .box ty' cs) (by simp)] at h2
          obtain ⟨k, arr, q1, _⟩ := h2
          have hp : a.eval x = .pointer (some ⟨k, q, none⟩) := by cases h1 with | ptr _ _ _ _ hp => exact hp k q1
          refine ⟨.pointer (some ⟨k, q + off, none⟩), ?_, .ptr r _ _ rfl fun k' hk => ?_⟩
          · simp [execOp, ho, hp, run_fieldAt hT hf hl, add_at]
          · rw [q1] at hk; injection hk with hk; rw [hk]
        · trivial
      · rename_i cs hx
        refine .read fun _ => sem1_read hdst fun L' hd F a w hev hfp hi => ?_
        have h1 := hev x (by simp [ho, Op.operands])
        rw [hx] at h1
        generalize hz : a.eval x = z at h1
        cases h1 with
        | rop _ ad u hs hF hc hr =>
          obtain ⟨g, q, sp⟩ := ad
          obtain rfl : sp = none := hs
          refine ⟨.pointer (some ⟨g, q + off, none⟩), by simp [execOp, ho, hz, run_fieldAt hT hf hl, add_at], .rop _ _ (fun j => u (off + j)) rfl hF (fun j c hj => ?_) (fun j c hj => ?_)⟩
          · rw [List.getElem?_drop] at hj
            have := hc _ c hj
            rw [add_at] at this ⊢
            rw [Nat.add_assoc]
            exact this
          · rw [List.getElem?_drop] at hj
            exact hr _ c hj
      · trivial
    · trivial
  · trivial

def stField (T : TT) (L : LS) (t : Nat) (x : Operand) (f : Nat) : SR := match fieldT T t f with
  | some (off, ty) => match lkT T ty with
    | some i => match L.ev x with
      | .agg l => match takeAt i l off with
        | some v => .act [] ⟨v, []⟩ True
        | none => .stop
      | _ => .stop
    | none => .stop
  | none => .stop
theorem stField_ok {C : Ctx} {T : TT} (hT : TOk C.P T) {o : Oper} {L : LS} {t : TypeId} {x : Operand} {f : Nat} (hdst : ∀ d, o.dst = some d → d < C.fn.ntmps) (ho : o.op = .field t x f) : SRok C o L (stField T L t x f) := by
  unfold stField
  split
  · rename_i off ty hf
    split
    · rename_i i hl
      split
      · rename_i l hx
        split
        · rename_i v hv
          refine .read fun _ => sem1_read hdst fun L' hd F a w hev hfp hi => ?_
          have h1 := hev x (by simp [ho, Op.operands])
          rw [hx] at h1
          generalize hz : a.eval x = z at h1
          cases h1 with
          | agg _ cs g1 g2 g3 =>
            obtain ⟨d, fd, e1, e2, e3, e4⟩ := fieldT_ok hT hf
            have ok := lkT_ok hT hl
            obtain ⟨inf, zz, j1, j2, _⟩ := ok.info
            subst e3 e4
            unfold takeAt at hv
            cases hag : i.agg with
            | true =>
              rw [hag] at hv
              simp only [if_true] at hv
              split at hv
              · rename_i hsz
                cases hv
                refine ⟨.agg ((cs.drop fd.offset).take i.size).toArray, ?_, .agg _ _ ?_ (fun j c u hj hu => ?_) (fun u hu => g3 u (List.mem_of_mem_drop (List.mem_of_mem_take hu)))⟩
                · have hsz0 : (sizeOf fd.type).run C.P w = .ok inf.size w := by simp [sizeOf, typeInfo, j1]
                  simp [execOp, ho, hz, Instr.field, run_underlying e1, e2, asAgg, part, ok.agg w, hag, hsz0, j2, List.extract_eq_take_drop]
                · simp only [List.length_take, List.length_drop] at hsz ⊢; omega
                · rw [List.getElem?_take] at hj hu
                  split at hj
                  · rename_i hlt
                    rw [if_pos hlt] at hu
                    rw [List.getElem?_drop] at hj hu
                    exact g2 _ c u hj hu
                  · cases hj
              · cases hv
            | false =>
              rw [hag] at hv
              simp only [Bool.false_eq_true, if_false] at hv
              have hlt : fd.offset < cs.length := by rw [g1]; exact (List.getElem?_eq_some_iff.1 hv).1
              refine ⟨cs[fd.offset], ?_, g2 _ v _ hv (List.getElem?_eq_getElem hlt)⟩
              simp [execOp, ho, hz, Instr.field, run_underlying e1, e2, asAgg, part, ok.agg w, hag, hlt]
        · trivial
      · trivial
    · trivial
  · trivial

/-! ### tuples, nil checks, function values -/
def stExtract (L : LS) (x : Operand) (j : Nat) : SR := match L.ev x with
  | .tup l => match l[j]? with
    | some v => .act [] ⟨v, []⟩ True
    | none => .stop
  | _ => .stop
theorem stExtract_ok {C : Ctx} {o : Oper} {L : LS} {x : Operand} {j : Nat} (hdst : ∀ d, o.dst = some d → d < C.fn.ntmps) (ho : o.op = .extract x j) : SRok C o L (stExtract L x j) := by
  unfold stExtract
  split
  · rename_i l hx
    split
    · rename_i v hv
      refine .read fun _ => sem1_read hdst fun L' hd F a w hev hfp hi => ?_
      have h1 := hev x (by simp [ho, Op.operands])
      rw [hx] at h1
      generalize hz : a.eval x = z at h1
      cases h1 with
      | tup _ cs g1 g2 =>
        have hlt : j < cs.length := by rw [g1]; exact (List.getElem?_eq_some_iff.1 hv).1
        exact ⟨cs[j], by simp [execOp, ho, hz, Instr.extract, hlt], g2 _ v _ hv (List.getElem?_eq_getElem hlt)⟩
    · trivial
  · trivial
def stNilCheck (L : LS) (x : Operand) : SR := match L.ev x with
  | .ptr r o => match L.blk r with
    | some (.box ty cs) => .act [(r, .box ty cs)] ⟨.ptr r o, []⟩ True
    | _ => .stop
  | .rop cs => .act [] ⟨.rop cs, []⟩ True
  | .fn (.func f) l l' => .act [] ⟨.fn (.func f) l l', []⟩ True
  | _ => .stop
theorem stNilCheck_ok {C : Ctx} {o : Oper} {L : LS} {x : Operand} (hdst : ∀ d, o.dst = some d → d < C.fn.ntmps) (ho : o.op = .nilCheck x) : SRok C o L (stNilCheck L x) := by
  unfold stNilCheck
  split
  · rename_i r q hx
    split
    · rename_i ty' cs hb
      refine .read1 hb fun _ => sem1_read hdst fun L' hd F a w hev hfp hi => ?_
      have h1 := hev x (by simp [ho, Op.operands])
      rw [hx] at h1
      have h2 := hi.blocks r
      rw [hfp (r, .box ty' cs) (by simp)] at h2
      obtain ⟨k, arr, q1, _⟩ := h2
      have hp : a.eval x = .pointer (some ⟨k, q, none⟩) := by cases h1 with | ptr _ _ _ _ hp => exact hp k q1
      exact ⟨_, by simp [execOp, ho, hp], h1⟩
    · trivial
  · rename_i cs hx
    refine .read fun _ => sem1_read hdst fun L' hd F a w hev hfp hi => ?_
    have h1 := hev x (by simp [ho, Op.operands])
    rw [hx] at h1
    refine ⟨_, ?_, h1⟩
    generalize hz : a.eval x = z at h1
    cases h1 with
    | rop _ ad u hs hF hc hr => simp [execOp, ho, hz]
  · rename_i f l l' hx
    refine .read fun _ => sem1_read hdst fun L' hd F a w hev hfp hi => ?_
    have h1 := hev x (by simp [ho, Op.operands])
    rw [hx] at h1
    refine ⟨_, ?_, h1⟩
    generalize hz : a.eval x = z at h1
    cases h1 with
    | fn => simp [execOp, ho, hz]
  · trivial
def evL (L : LS) : List Operand → List AV
  | [] => []
  | x :: l => L.ev x :: evL L l
theorem evL_get (L : LS) : ∀ (l : List Operand) (j : Nat), (evL L l)[j]? = (l[j]?).map L.ev
  | [], j => by simp [evL]
  | x :: l, 0 => by simp [evL]
  | x :: l, j + 1 => by simp [evL, evL_get L l j]
theorem evL_len (L : LS) : ∀ (l : List Operand), (evL L l).length = l.length
  | [] => rfl
  | x :: l => by simp [evL, evL_len L l]
def stMakeFunc (L : LS) (f : Fn) (l l' : Array Operand) : SR := .act [] ⟨.fn f (evL L l.toList) (evL L l'.toList), []⟩ True
theorem stMakeFunc_ok {C : Ctx} {o : Oper} {L : LS} {f : Fn} {l l' : Array Operand} (hdst : ∀ d, o.dst = some d → d < C.fn.ntmps) (ho : o.op = .makeFunc f l l') : SRok C o L (stMakeFunc L f l l') := by
  refine .read fun _ => sem1_read hdst fun L' hd F a w hev hfp hi => ⟨.func f (l.map a.eval) (l'.map a.eval), by simp [execOp, ho, Instr.makeFunc], ?_⟩
  have key : ∀ (q : Array Operand), (∀ x ∈ q.toList, x ∈ o.op.operands.toList) → ∀ (j : Nat) (c : AV) (v : Value), (evL L q.toList)[j]? = some c → ((q.toList.map a.eval))[j]? = some v → Rep w F hd c v := by
    intro q hq j c v hj hv
    rw [evL_get] at hj
    rw [List.getElem?_map] at hv
    cases hqj : q.toList[j]? with
    | none => rw [hqj] at hj; cases hj
    | some x =>
      rw [hqj] at hj hv
      cases hj
      cases hv
      exact hev x (hq x (List.mem_of_getElem? hqj))
  have := Rep.fn (w := w) (F := F) (hd := hd) f (evL L l.toList) (evL L l'.toList) (l.toList.map a.eval) (l'.toList.map a.eval) (by simp [evL_len]) (by simp [evL_len]) (key l (fun x hx => by simp [ho, Op.operands]; left; simpa using hx)) (key l' (fun x hx => by simp [ho, Op.operands]; right; simpa using hx))
  have e : ∀ q : Array Operand, (q.toList.map a.eval).toArray = q.map a.eval := fun q => by rw [← Array.toList_map]
  rw [e, e] at this
  exact this

/-! ### lengths and bytes -/
/-- A byte of a text, under a name that nothing opens. -/
@[irreducible] def byteAt (s : ByteArray) (i : Int) : Int := ((s.data.toList.getD i.toNat 0).toNat : Int)
theorem byteAt_eq (s : ByteArray) (i : Int) : byteAt s i = ((s.data.toList.getD i.toNat 0).toNat : Int) := by unfold byteAt; rfl
def stLen (T : TT) (L : LS) (t : Nat) (x : Operand) : SR := match L.ev x with
  | .pv (.ro sz es) => match sliceE T t with
    | some _ => .act [] ⟨.pv (.val (.int .i64 (es.length : Int))), []⟩ True
    | none => .stop
  | .own r => match L.blk r with
    | some (.row e sz es) => match sliceE T t with
      | some _ => .act [(r, .row e sz es)] ⟨.pv (.val (.int .i64 (es.length : Int))), []⟩ True
      | none => .stop
    | _ => .stop
  | .pv (.nilS _) => match sliceE T t with
    | some _ => .act [] ⟨.pv (.val (.int .i64 0)), []⟩ True
    | none => .stop
  | .pv (.val (.string s)) => if isStrT T t = true then .act [] ⟨.pv (.val (.int .i64 (s.size : Int))), []⟩ True else .stop
  | _ => .stop
theorem own_slice {w : World} {base : Nat} {e : TypeId} {size : Nat} {v : Value} {n : Nat} {xs : List Value} (h : w.ownsRow base e size v n xs) : ∃ A c, v = .slice A n c := by
  rcases h.2 with ⟨rfl, rfl⟩ | ⟨g, cap, cur, rfl, _⟩
  · exact ⟨none, 0, rfl⟩
  · exact ⟨_, cap, rfl⟩
theorem stLen_ok {C : Ctx} {T : TT} (hT : TOk C.P T) {o : Oper} {L : LS} {c : Call} {t : TypeId} {x : Operand} (hdst : ∀ d, o.dst = some d → d < C.fn.ntmps) (ho : o.op = .call c) (hc : c.callee = .builtin .len) (hx' : c.args = #[x]) (ht : c.argTypes = #[t]) : SRok C o L (stLen T L t x) := by
  have hmem : x ∈ o.op.operands.toList := by simp [ho, Op.operands, Call.operands, hx', hc]
  unfold stLen
  split
  · rename_i sz es hx
    split
    · rename_i e he
      refine .read fun _ => sem1_read hdst fun L' hd F a w hev hfp hi => ⟨_, ?_, rep_val rfl⟩
      have h1 := hev x hmem
      rw [hx] at h1
      generalize hz : a.eval x = z at h1
      cases h1 with
      | pv _ _ hp => cases hp with | ro => simp [execOp, ho, resolve, hc, hx', ht, invoke, builtin, Builtin.len_, run_underlying (sliceE_ok hT he), hz, goInt]
    · trivial
  · rename_i r hx
    split
    · rename_i e sz es hb
      split
      · rename_i e' he
        refine .read1 hb fun _ => sem1_read hdst fun L' hd F a w hev hfp hi => ⟨_, ?_, rep_val rfl⟩
        have h1 := hev x hmem
        rw [hx] at h1
        have h2 := hi.blocks r
        rw [hfp (r, .row e sz es) (by simp)] at h2
        obtain ⟨v, cells, q1, q2, _⟩ := h2
        have hp : a.eval x = v := by cases h1 with | own _ _ _ hp => exact hp v q1
        obtain ⟨A, cp, rfl⟩ := own_slice q2
        simp [execOp, ho, resolve, hc, hx', ht, invoke, builtin, Builtin.len_, run_underlying (sliceE_ok hT he), hp, goInt]
      · trivial
    · trivial
  · rename_i sz hx
    split
    · rename_i e he
      refine .read fun _ => sem1_read hdst fun L' hd F a w hev hfp hi => ⟨_, ?_, rep_val rfl⟩
      have h1 := hev x hmem
      rw [hx] at h1
      generalize hz : a.eval x = z at h1
      cases h1 with
      | pv _ _ hp => cases hp with | nilS => simp [execOp, ho, resolve, hc, hx', ht, invoke, builtin, Builtin.len_, run_underlying (sliceE_ok hT he), hz, goInt]
    · trivial
  · rename_i s hx
    split
    · rename_i hs
      refine .read fun _ => sem1_read hdst fun L' hd F a w hev hfp hi => ⟨_, ?_, rep_val rfl⟩
      have h1 := hev x hmem
      rw [hx] at h1
      simp [execOp, ho, resolve, hc, hx', ht, invoke, builtin, Builtin.len_, run_underlying (isStrT_ok hT hs), bool_of h1, goInt]
    · trivial
  · trivial
def stIndex (T : TT) (L : LS) (t : Nat) (x y : Operand) : SR := match L.ev x, L.ev y with
  | .pv (.val (.string s)), .pv (.val (.int _ i)) => if isStrT T t = true then .act [] ⟨.pv (.val (.int .u8 (byteAt s i))), []⟩ (0 ≤ i ∧ i < s.size) else .stop
  | _, _ => .stop
theorem stIndex_ok {C : Ctx} {T : TT} (hT : TOk C.P T) {o : Oper} {L : LS} {t : TypeId} {x y : Operand} (hdst : ∀ d, o.dst = some d → d < C.fn.ntmps) (ho : o.op = .index t x y) : SRok C o L (stIndex T L t x y) := by
  unfold stIndex
  split
  · rename_i s k i hx hy
    split
    · rename_i hs
      refine .read fun hp => sem1_read hdst fun L' hd F a w hev hfp hi => ⟨_, ?_, rep_val rfl⟩
      have h1 := hev x (by simp [ho, Op.operands])
      have h2 := hev y (by simp [ho, Op.operands])
      rw [hx] at h1
      rw [hy] at h2
      have hlt : i.toNat < s.size := by omega
      have hg : s[i.toNat]? = some (s.data.toList.getD i.toNat 0) := by
        have : s.data.toList.getD i.toNat 0 = s[i.toNat] := by
          have h3 : i.toNat < s.data.toList.length := by simpa using hlt
          rw [List.getD_eq_getElem?_getD, List.getElem?_eq_getElem h3]
          rfl
        rw [this]
        exact getElem?_pos s i.toNat hlt
      simp [execOp, ho, bool_of h1, bool_of h2, Instr.index, asIntOf, run_underlying (isStrT_ok hT hs), hp.1, hg, byteAt_eq]
    · trivial
  · trivial

end Go.Abs
