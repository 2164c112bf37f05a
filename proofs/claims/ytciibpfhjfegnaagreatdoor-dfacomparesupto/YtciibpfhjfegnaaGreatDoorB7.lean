/-
  THE ARGUMENTS of a law within its reach: expressions, rows of names, texts, each within the bulk; the table of tens out of what is laid.
-/
import Derived.Test.YtciibpfhjfegnaaGreatDoorCards
import Derived.Test.YtciibpfhjfegnaaGreatDoorTie
import Derived.Lay
import Derived.Deep.DeepHandedRow
import Derived.Lib.LaidTab
import Derived.Lib.LaidU8
import Derived.Shelf.Vars
import Derived.LaidSub
import Derived.Test.YtciibpfhjfegnaaGreatDoorD32
import Derived.Test.YtciibpfhjfegnaaGreatDoorH12
set_option linter.unusedVariables false
set_option linter.unusedSimpArgs false
namespace Go.Proofs.D
open Go Go.Abs Go.RowKit Go.ChangeShapes Go.WideShapes
open Go.Proofs.YtciibpfhjfegnaaGreatDoor.Rows (uptoBulk uptoBulkAll uptoSmall)
section
variable {H : Type} {enc : TypeId × Value → H} {W : World}
theorem ownKnobs7 : ownKnob Tryz.prog.godebug = none := by kernel_rfl
theorem bulk_part {d : DataW H} {l : List (DataW H)} (h : d ∈ l) : uptoBulk d ≤ uptoBulkAll l := by
  induction l with
  | nil => cases h
  | cons x r ih =>
    simp only [uptoBulkAll]
    cases List.mem_cons.1 h with
    | inl e => subst e; omega
    | inr e => have := ih e; omega
theorem bulk_sum {X : Type} (f : X → Nat) : ∀ (l : List X) (es : List (DataW H)), es.length = l.length → (∀ (i : Nat) (y : X) (d : DataW H), l[i]? = some y → es[i]? = some d → f y ≤ uptoBulk d) → (l.map f).sum ≤ uptoBulkAll es
  | [], es, _, _ => by simp
  | y :: l, [], h, _ => by simp at h
  | y :: l, d :: es, h, hr => by
    simp only [List.map_cons, List.sum_cons, uptoBulkAll]
    have h1 := hr 0 y d rfl rfl
    have h2 := bulk_sum f l es (by simpa using h) fun i y d h3 h4 => hr (i + 1) y d (by simpa using h3) (by simpa using h4)
    omega
theorem bulk_of {ds : List (DataW H)} (h : uptoSmall H ds = true) {d : DataW H} (hd : d ∈ ds) : uptoBulk d ≤ 1048576 := by
  have h1 : uptoBulkAll ds ≤ 1048576 := of_decide_eq_true h
  have := bulk_part hd
  omega
theorem reads_sliceR {t e sz : Nat} (ht : Tryz.prog.underlying t = some (.slice e)) (hc : Tryz.prog.cellsOf e = sz) (hsz : 0 < sz) {X : Type} [Inhabited X] (pv : X → List PV) (R : X → DataW H → Prop) (n : Nat)
    (he : ∀ m, m < n → ∀ cs x, DataW.trod enc Tryz.prog W 0 (fun _ => true) true m e cs = some x → ∃ y : X, R y x.1 ∧ (pv y).length = sz ∧ ∀ (j : Nat) (c : PV) (v : Value), (pv y)[j]? = some c → cs[j]? = some v → RepP W (allOf W) c v)
    (cs : List Value) (x : DataW H × List MemPlace) (h : DataW.trod enc Tryz.prog W 0 (fun _ => true) true n t cs = some x) :
    ∃ (l : List X) (v : Value), cs = [v] ∧ RepP W (allOf W) (.ro sz (l.map pv)) v ∧ (x.1 = .nil ∧ l = [] ∨ ∃ es sp, x.1 = .slice es sp ∧ es.length = l.length ∧ ∀ (i : Nat) (y : X) (d : DataW H), l[i]? = some y → es[i]? = some d → R y d) := by
  rcases DataW.trod_slice ht h with ⟨rfl, rfl⟩ | ⟨a, len, cap, elems, rest, m, rfl, rfl, rfl, hb, hcl, hm, hle, hel, hr, _⟩
  · exact ⟨[], _, rfl, .ro sz [] none 0 (fun _ _ => undef) (fun _ => rfl) (by simp) (by simp) (fun i e h => by simp at h) (fun h => absurd rfl h) (fun i j e c h => by simp at h), .inl ⟨rfl, rfl⟩⟩
  · rw [hc] at hel
    have hx : ∀ i (hi : i < len), ∃ (y : X) (c : List Value), R y (elems[i]'(by omega)).1 ∧ (pv y).length = sz ∧ W.cells? 0 (a.add (i * sz)) sz = some c ∧ ∀ (j : Nat) (p : PV) (v : Value), (pv y)[j]? = some p → c[j]? = some v → RepP W (allOf W) p v := by
      intro i hi
      have h2 := hel i hi
      rw [List.getElem?_eq_getElem (by omega)] at h2
      obtain ⟨c, hc1, hc2⟩ := Option.bind_eq_some_iff.1 h2
      obtain ⟨y, y1, y2, y3⟩ := he m (by omega) c _ hc2
      exact ⟨y, c, y1, y2, hc1, y3⟩
    let f : Nat → X := fun i => if hi : i < len then (hx i hi).choose else default
    have hf : ∀ i (hi : i < len), R (f i) (elems[i]'(by omega)).1 ∧ (pv (f i)).length = sz ∧ ∃ c, W.cells? 0 (a.add (i * sz)) sz = some c ∧ ∀ (j : Nat) (p : PV) (v : Value), (pv (f i))[j]? = some p → c[j]? = some v → RepP W (allOf W) p v := by
      intro i hi
      have e1 : f i = (hx i hi).choose := dif_pos hi
      obtain ⟨c, q1, q2, q3, q4⟩ := (hx i hi).choose_spec
      rw [e1]
      exact ⟨q1, q2, c, q3, q4⟩
    have hspot : 0 < len → a.spot = none ∧ a.block < W.heap.size := by
      intro h0
      obtain ⟨_, _, c, q3, _⟩ := hf 0 h0
      obtain ⟨l1, l2⟩ := cells_get q3
      have := l2 0 hsz
      rw [List.getElem?_eq_getElem (by omega)] at this
      have h3 := cell_lt this
      simp [Addr.add] at h3
      exact ⟨h3.2, h3.1⟩
    have hval : ∀ i j, i < len → j < sz → ∃ v, W.cell? (a.add (i * sz + j)) = some v ∧ ∀ p, (pv (f i))[j]? = some p → RepP W (allOf W) p v := by
      intro i j hi hj
      obtain ⟨_, _, c, q3, q4⟩ := hf i hi
      obtain ⟨l1, l2⟩ := cells_get q3
      have h2 := l2 j hj
      rw [add_add (hspot (by omega)).1, List.getElem?_eq_getElem (by omega)] at h2
      exact ⟨_, h2, fun p hp => q4 j p _ hp (List.getElem?_eq_getElem _)⟩
    have hlen : ((List.range len).map f).length = len := by simp
    have hget : ∀ (i : Nat) (el : List PV), (((List.range len).map f).map pv)[i]? = some el → i < len ∧ el = pv (f i) := by
      intro i el hi
      rw [List.map_map, List.getElem?_map] at hi
      cases hri : (List.range len)[i]? with
      | none => rw [hri] at hi; cases hi
      | some k =>
        rw [hri] at hi
        obtain ⟨h1, h2⟩ := List.getElem?_eq_some_iff.1 hri
        simp at h1 h2 hi
        subst h2
        exact ⟨h1, hi.symm⟩
    refine ⟨(List.range len).map f, _, rfl, ?_, .inr ⟨_, _, rfl, by simp [hle], fun i y d h1 h2 => ?_⟩⟩
    · have hro := RepP.ro (w := W) (F := allOf W) sz (((List.range len).map f).map pv) (some a) cap (fun i j => (W.cell? (a.add (i * sz + j))).getD undef) (fun h => by cases h) (by simpa using hcl) (by simp; simp only [maxLen] at hm; omega) (fun i el hi => by
        obtain ⟨h1, rfl⟩ := hget i el hi
        exact (hf i h1).2.1) (fun hne => by
        have h0 : 0 < len := by
          rcases Nat.eq_zero_or_pos len with h | h
          · subst h; simp at hne
          · exact h
        refine ⟨a, rfl, (hspot h0).1, (hspot h0).2, fun i j el c h1 h2 => ?_⟩
        obtain ⟨g1, rfl⟩ := hget i el h1
        have g2 : j < sz := by rw [← (hf i g1).2.1]; exact (List.getElem?_eq_some_iff.1 h2).1
        obtain ⟨v, q1, _⟩ := hval i j g1 g2
        rw [q1]; rfl) (fun i j el c h1 h2 => by
        obtain ⟨g1, rfl⟩ := hget i el h1
        have g2 : j < sz := by rw [← (hf i g1).2.1]; exact (List.getElem?_eq_some_iff.1 h2).1
        obtain ⟨v, q1, q2⟩ := hval i j g1 g2
        rw [q1]
        exact q2 c h2)
      simpa using hro
    · have hi : i < len := by have := (List.getElem?_eq_some_iff.1 h1).1; simpa using this
      have e1 : y = f i := by
        rw [List.getElem?_map, List.getElem?_range hi] at h1
        simpa using h1.symm
      have e2 : d = (elems[i]'(by omega)).1 := by
        rw [List.getElem?_map, List.getElem?_eq_getElem (by omega)] at h2
        simpa using h2.symm
      rw [e1, e2]
      exact (hf i hi).1
theorem cellsE : Tryz.prog.cellsOf 24 = 3 := by kernel_rfl
theorem cellsU : Tryz.prog.cellsOf 5 = 1 := by kernel_rfl
theorem cellsL : Tryz.prog.cellsOf 22 = 1 := by kernel_rfl
theorem againU (n : Nat) : Again H enc Tryz.prog n 5 := again_int Tryz.underlying5 n
theorem againE (n : Nat) : Again H enc Tryz.prog n 24 := by
  induction n using Nat.strongRecOn with
  | _ n ih =>
    refine again_struct Tryz.underlying24 n fun m hm i f hf => ?_
    match i, hf with
    | 0, hf => simp at hf; subst hf; exact againU m
    | 1, hf => simp at hf; subst hf; exact again9 m
    | 2, hf => simp at hf; subst hf; exact again_slice Tryz.underlying22 (by rw [cellsE]; decide) m fun k hk => ih k (by omega)
    | i + 3, hf => simp at hf
instance instE7 : Inhabited E := ⟨.mk 0 ⟨#[]⟩ []⟩
theorem pv_lenE (e : E) : e.pv.length = 3 := by rw [E.pv_eq]; rfl
set_option maxRecDepth 20000 in
theorem readsE (n : Nat) : ∀ (cs : List Value) (x : DataW H × List MemPlace), DataW.trod enc Tryz.prog W 0 (fun _ => true) true n 24 cs = some x →
    ∃ e : E, (e.small ∧ e.cnt ≤ uptoBulk x.1) ∧ cs.length = 3 ∧ ∀ (j : Nat) (c : PV) (v : Value), e.pv[j]? = some c → cs[j]? = some v → RepP W (allOf W) c v := by
  induction n using Nat.strongRecOn with
  | _ n ih =>
    intro cs x h
    obtain ⟨xs, m, rfl, rfl, hl, hx, hi⟩ := DataW.trod_struct Tryz.underlying24 h
    rw [cellsE] at hl
    match cs, hl with
    | [c0, c1, c2], _ =>
      have g : ∀ i, i < 3 → ∃ y, xs[i]? = some y := fun i hi3 => ⟨_, List.getElem?_eq_getElem (by rw [hx]; exact hi3)⟩
      have h0 := hi 0 _ rfl
      have h1 := hi 1 _ rfl
      have h2 := hi 2 _ rfl
      obtain ⟨y0, e0⟩ := g 0 (by decide)
      obtain ⟨y1, e1⟩ := g 1 (by decide)
      obtain ⟨y2, e2⟩ := g 2 (by decide)
      rw [e0] at h0
      rw [e1] at h1
      rw [e2] at h2
      replace h0 : DataW.trod enc Tryz.prog W 0 (fun _ => true) true m 5 [c0] = some y0 := by simpa [cellsU] using h0
      replace h1 : DataW.trod enc Tryz.prog W 0 (fun _ => true) true m 9 [c1] = some y1 := by simpa [cells9] using h1
      replace h2 : DataW.trod enc Tryz.prog W 0 (fun _ => true) true m 22 [c2] = some y2 := by simpa [cellsL] using h2
      obtain ⟨op, q0, _, _⟩ := DataW.trod_int Tryz.underlying5 h0
      obtain ⟨s, q1, hs⟩ := str_of h1
      obtain ⟨l, v, q2, hr, hd⟩ := reads_sliceR (e := 24) (sz := 3) Tryz.underlying22 cellsE (by decide) E.pv (fun e d => e.small ∧ e.cnt ≤ uptoBulk d) m (fun k hk cs x hx => by
        obtain ⟨e, a1, a2, a3⟩ := ih k (by omega) cs x hx
        exact ⟨e, a1, pv_lenE e, a3⟩) _ _ h2
      obtain rfl : c0 = .int .u8 op := by simpa using q0
      obtain rfl : c1 = .string s := by simpa using q1
      obtain rfl : c2 = v := by simpa using q2
      have hsum : (∀ k ∈ l, k.small) ∧ (l.map E.cnt).sum + 1 ≤ uptoBulk y2.1 := by
        rcases hd with ⟨hd, rfl⟩ | ⟨es, sp, hd, hlen, hR⟩
        · rw [hd]; simp [uptoBulk]
        · rw [hd]
          refine ⟨fun k hk => ?_, ?_⟩
          · obtain ⟨i, hi'⟩ := List.getElem?_of_mem hk
            have hil := (List.getElem?_eq_some_iff.1 hi').1
            exact (hR i k _ hi' (List.getElem?_eq_getElem (by omega))).1
          · have := bulk_sum E.cnt l es hlen fun i y d a b => (hR i y d a b).2
            simp only [uptoBulk]
            omega
      refine ⟨.mk op s l, ⟨E.small_mk (Nat.le_trans hs (by decide)) hsum.1, ?_⟩, rfl, fun j c v h3 h4 => ?_⟩
      · have hmem : y2.1 ∈ xs.map (·.1) := List.mem_map_of_mem (List.mem_of_getElem? e2)
        have := bulk_part hmem
        rw [cnt_eq]
        simp only [uptoBulk, E.kids]
        omega
      · rw [E.pv_eq] at h3
        match j, h3, h4 with
        | 0, h3, h4 => simp at h3 h4; subst h3 h4; exact .val _ rfl
        | 1, h3, h4 => simp at h3 h4; subst h3 h4; exact .val _ rfl
        | 2, h3, h4 => simp at h3 h4; subst h3 h4; exact hr
theorem argE {v : Value} {d : DataW H} {p : List MemPlace} (h : DataW.Trod enc Tryz.prog W 0 (fun _ => true) true 24 v d p) (hk : uptoBulk d ≤ 1048576) : ∃ e : E, e.small ∧ e.cnt ≤ 1000000000 ∧ Rep W (allOf W) noHd e.av v := by
  obtain ⟨n, hn⟩ := h
  obtain ⟨e, ⟨h1, hc⟩, h2, h3⟩ := readsE n _ _ hn
  refine ⟨e, h1, by dsimp only at hc; omega, ?_⟩
  have hv : ∃ cs : List Value, v = .agg cs.toArray ∧ v.cells.toList = cs := by
    cases v with
    | agg a => exact ⟨a.toList, by simp, rfl⟩
    | _ => simp [Value.cells] at h2
  obtain ⟨cs, rfl, hc⟩ := hv
  rw [hc] at h2 h3
  have hp : ∀ (j : Nat) (c : AV) (v : Value), e.cells[j]? = some c → cs[j]? = some v → ∃ q, c = .pv q ∧ RepP W (allOf W) q v := by
    intro j c v hj hv
    have : e.cells = e.pv.map AV.pv := by rw [E.pv_eq]; rfl
    rw [this, List.getElem?_map] at hj
    cases hq : e.pv[j]? with
    | none => rw [hq] at hj; cases hj
    | some q => rw [hq] at hj; cases hj; exact ⟨q, rfl, h3 j q v hq hv⟩
  refine .agg e.cells cs (by rw [h2]; rfl) (fun j c v hj hv => ?_) fun v hv => ?_
  · obtain ⟨q, rfl, hq⟩ := hp j c v hj hv
    exact .pv q v hq
  · obtain ⟨j, hj⟩ := List.getElem?_of_mem hv
    have : j < e.cells.length := by rw [show e.cells.length = 3 from rfl, ← h2]; exact (List.getElem?_eq_some_iff.1 hj).1
    obtain ⟨q, _, hq⟩ := hp j _ v (List.getElem?_eq_getElem this) hj
    exact hq.one
set_option maxRecDepth 20000 in
theorem argB {b0 : Nat} {v : Value} {d : DataW H} {p : List MemPlace} (hok : Value.okWide Tryz.prog W .any b0 9 v) (hr : DataW.Trod enc Tryz.prog W 0 (fun _ => true) true 9 v d p) (hk : uptoBulk d ≤ 1048576) : ∃ s : ByteArray, Rep W (allOf W) noHd (vS s) v ∧ s.size ≤ 1048576 := by
  obtain ⟨s, rfl, rfl, _, _⟩ := Go.ChangeMaps.open_string Tryz.underlying9 hok hr
  have e : s.data.toList.length = s.size := Array.length_toList
  simp only [uptoBulk] at hk
  exact ⟨s, rep_val rfl, by omega⟩
theorem tab10_of {L : List (String × DataW Unit)} (h : laidMetH Tryz.prog L W) (hm : ("internal/strconv.uint64pow10", Go.Proofs.YtciibpfhjfegnaaGreatDoor.Rows.laid_internal_strconv_uint64pow10) ∈ L) : tab10.p W (allOf W) := by
  obtain ⟨g, t, cs, fuel, p, hg, ht, hv, hd⟩ := Lib.laidMet.reads (laidMetH_iff.1 h).1 (List.mem_filter.2 ⟨hm, by kernel_rfl⟩)
  obtain rfl : g = 3 := Option.some.inj (hg.symm.trans (show Tryz.prog.globalNamed "internal/strconv.uint64pow10" = some 3 by kernel_rfl))
  obtain rfl : t = 293 := Option.some.inj (ht.symm.trans (show (Tryz.prog.globals[3]?).map (·.type) = some 293 by kernel_rfl))
  have e4 : (Go.Proofs.YtciibpfhjfegnaaGreatDoor.Rows.laid_internal_strconv_uint64pow10 : DataW Unit) = Lib.tabData .u64 Lib.pow10Tab := by kernel_rfl
  rw [e4] at hd
  have hcs := Lib.cells_of_tab Tryz.underlying293 Tryz.underlying248 (by kernel_rfl) (by kernel_rfl) hd
  simp only [World.var?, hg, Option.bind_some] at hv
  cases hb : W.heap[3]? with
  | none => rw [hb] at hv; cases hv
  | some o =>
    rw [hb] at hv
    cases o with
    | cells cs' t' p' =>
      simp only [Option.some.injEq] at hv
      subst hv
      exact ⟨3, _, _, _, hg, (Array.getElem?_eq_some_iff.1 hb).1, hb, by rw [← hcs]⟩
    | _ => cases hv
end
end Go.Proofs.D
