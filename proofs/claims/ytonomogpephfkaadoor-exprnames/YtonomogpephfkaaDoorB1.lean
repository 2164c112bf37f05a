/-
  THE ARGUMENTS, as the row reads them: expressions, rows of names, texts.
-/
import Derived.Test.YtonomogpephfkaaDoorD4
import Derived.Test.YtonomogpephfkaaDoorD11
import Derived.Test.YtonomogpephfkaaDoorAbsQ
set_option linter.unusedVariables false
set_option linter.unusedSimpArgs false
namespace Go.Proofs.D
open Go Go.Abs Go.RowKit Go.ChangeShapes Go.WideShapes
section
variable {H : Type} {enc : TypeId × Value → H} {W : World}
abbrev allOf (W : World) (k : Nat) : Prop := k < W.heap.size
theorem cells25 : Tryd.prog.cellsOf 25 = 3 := by kernel_rfl
theorem cells5 : Tryd.prog.cellsOf 5 = 1 := by kernel_rfl
theorem cells9 : Tryd.prog.cellsOf 9 = 1 := by kernel_rfl
theorem cells23 : Tryd.prog.cellsOf 23 = 1 := by kernel_rfl
theorem again5 (n : Nat) : Again H enc Tryd.prog n 5 := again_int Tryd.underlying5 n
theorem again3 (n : Nat) : Again H enc Tryd.prog n 3 := again_int Tryd.underlying3 n
theorem again9 (n : Nat) : Again H enc Tryd.prog n 9 := again_string Tryd.underlying9 n
theorem again42 (n : Nat) : Again H enc Tryd.prog n 42 := again_slice Tryd.underlying42 (by rw [cells9]; decide) n fun m _ => again9 m
theorem again25 (n : Nat) : Again H enc Tryd.prog n 25 := by
  induction n using Nat.strongRecOn with
  | _ n ih =>
    refine again_struct Tryd.underlying25 n fun m hm i f hf => ?_
    match i, hf with
    | 0, hf => simp at hf; subst hf; exact again5 m
    | 1, hf => simp at hf; subst hf; exact again9 m
    | 2, hf => simp at hf; subst hf; exact again_slice Tryd.underlying23 (by rw [cells25]; decide) m fun k hk => ih k (by omega)
    | i + 3, hf => simp at hf
theorem add_add {a : Addr} (hs : a.spot = none) (p j : Nat) : (a.add p).add j = a.add (p + j) := by
  obtain ⟨b, o, s⟩ := a
  simp at hs
  subst hs
  rw [add_at, add_at, add_at, Nat.add_assoc]
theorem cell_lt {w : World} {a : Addr} {v : Value} (h : w.cell? a = some v) : a.block < w.heap.size ∧ a.spot = none := by
  unfold World.cell? at h
  cases hb : w.heap[a.block]? with
  | none => rw [hb] at h; cases h
  | some o =>
    refine ⟨(Array.getElem?_eq_some_iff.1 hb).1, ?_⟩
    rw [hb] at h
    cases o with
    | cells c t f =>
      simp only at h
      cases hs : a.spot with
      | none => rfl
      | some s => rw [hs] at h; simp at h
    | _ => cases h
theorem cells_get {w : World} {a : Addr} {n : Nat} {c : List Value} (h : w.cells? 0 a n = some c) : c.length = n ∧ ∀ j, j < n → w.cell? (a.add j) = c[j]? := by
  unfold World.cells? at h
  simp only [Nat.zero_le, if_true] at h
  exact ⟨by simpa using mapM_some_length h, fun j hj => mapM_some_get h j j (by simp [hj])⟩
/-- A slice that was read: its elements, of which each is known. -/
theorem reads_slice {t e sz : Nat} (ht : Tryd.prog.underlying t = some (.slice e)) (hc : Tryd.prog.cellsOf e = sz) (hsz : 0 < sz) {X : Type} [Inhabited X] (pv : X → List PV) (good : X → Prop) (n : Nat)
    (he : ∀ m, m < n → ∀ cs x, DataW.trod enc Tryd.prog W 0 (fun _ => true) true m e cs = some x → ∃ y : X, good y ∧ (pv y).length = sz ∧ ∀ (j : Nat) (c : PV) (v : Value), (pv y)[j]? = some c → cs[j]? = some v → RepP W (allOf W) c v)
    (cs : List Value) (x : DataW H × List MemPlace) (h : DataW.trod enc Tryd.prog W 0 (fun _ => true) true n t cs = some x) :
    ∃ (l : List X) (v : Value), cs = [v] ∧ (∀ y ∈ l, good y) ∧ RepP W (allOf W) (.ro sz (l.map pv)) v ∧ (x.1 = .nil ∧ l = [] ∨ ∃ es sp, x.1 = .slice es sp ∧ es.length = l.length) := by
  rcases DataW.trod_slice ht h with ⟨rfl, rfl⟩ | ⟨a, len, cap, elems, rest, m, rfl, rfl, rfl, hb, hcl, hm, hle, hel, hr, _⟩
  · exact ⟨[], _, rfl, by simp, .ro sz [] none 0 (fun _ _ => undef) (fun _ => rfl) (by simp) (by simp) (fun i e h => by simp at h) (fun h => absurd rfl h) (fun i j e c h => by simp at h), .inl ⟨rfl, rfl⟩⟩
  · rw [hc] at hel
    have hx : ∀ i, i < len → ∃ (y : X) (c : List Value), good y ∧ (pv y).length = sz ∧ W.cells? 0 (a.add (i * sz)) sz = some c ∧ ∀ (j : Nat) (p : PV) (v : Value), (pv y)[j]? = some p → c[j]? = some v → RepP W (allOf W) p v := by
      intro i hi
      have h2 := hel i hi
      rw [List.getElem?_eq_getElem (by omega)] at h2
      obtain ⟨c, hc1, hc2⟩ := Option.bind_eq_some_iff.1 h2
      obtain ⟨y, y1, y2, y3⟩ := he m (by omega) c _ hc2
      exact ⟨y, c, y1, y2, hc1, y3⟩
    let f : Nat → X := fun i => if hi : i < len then (hx i hi).choose else default
    have hf : ∀ i (hi : i < len), good (f i) ∧ (pv (f i)).length = sz ∧ ∃ c, W.cells? 0 (a.add (i * sz)) sz = some c ∧ ∀ (j : Nat) (p : PV) (v : Value), (pv (f i))[j]? = some p → c[j]? = some v → RepP W (allOf W) p v := by
      intro i hi
      have e1 : f i = (hx i hi).choose := dif_pos hi
      obtain ⟨c, q1, q2, q3, q4⟩ := (hx i hi).choose_spec
      rw [e1]
      exact ⟨q1, q2, c, q3, q4⟩
    have hspot : 0 < len → a.spot = none ∧ a.block < W.heap.size := by
      intro h0
      obtain ⟨_, _, c, q3, _⟩ := hf 0 h0
      obtain ⟨l1, l2⟩ := cells_get q3
      have := l2 0 hsz
      rw [List.getElem?_eq_getElem (by omega)] at this
      have h3 := cell_lt this
      simp [Addr.add] at h3
      exact ⟨h3.2, h3.1⟩
    have hval : ∀ i j, i < len → j < sz → ∃ v, W.cell? (a.add (i * sz + j)) = some v ∧ ∀ p, (pv (f i))[j]? = some p → RepP W (allOf W) p v := by
      intro i j hi hj
      obtain ⟨_, _, c, q3, q4⟩ := hf i hi
      obtain ⟨l1, l2⟩ := cells_get q3
      have h2 := l2 j hj
      rw [add_add (hspot (by omega)).1, List.getElem?_eq_getElem (by omega)] at h2
      exact ⟨_, h2, fun p hp => q4 j p _ hp (List.getElem?_eq_getElem _)⟩
    have hlen : ((List.range len).map f).length = len := by simp
    have hget : ∀ (i : Nat) (el : List PV), (((List.range len).map f).map pv)[i]? = some el → i < len ∧ el = pv (f i) := by
      intro i el hi
      rw [List.map_map, List.getElem?_map] at hi
      cases hri : (List.range len)[i]? with
      | none => rw [hri] at hi; cases hi
      | some k =>
        rw [hri] at hi
        obtain ⟨h1, h2⟩ := List.getElem?_eq_some_iff.1 hri
        simp at h1 h2 hi
        subst h2
        exact ⟨h1, hi.symm⟩
    refine ⟨(List.range len).map f, _, rfl, ?_, ?_, .inr ⟨_, _, rfl, by simp [hle]⟩⟩
    · intro y hy
      obtain ⟨i, hi, rfl⟩ := List.mem_map.1 hy
      exact (hf i (by simpa using hi)).1
    · have hro := RepP.ro (w := W) (F := allOf W) sz (((List.range len).map f).map pv) (some a) cap (fun i j => (W.cell? (a.add (i * sz + j))).getD undef) (fun h => by cases h) (by simpa using hcl) (by simp; simp only [maxLen] at hm; omega) (fun i el hi => by
        obtain ⟨h1, rfl⟩ := hget i el hi
        exact (hf i h1).2.1) (fun hne => by
        have h0 : 0 < len := by
          rcases Nat.eq_zero_or_pos len with h | h
          · subst h; simp at hne
          · exact h
        refine ⟨a, rfl, (hspot h0).1, (hspot h0).2, fun i j el c h1 h2 => ?_⟩
        obtain ⟨g1, rfl⟩ := hget i el h1
        have g2 : j < sz := by rw [← (hf i g1).2.1]; exact (List.getElem?_eq_some_iff.1 h2).1
        obtain ⟨v, q1, _⟩ := hval i j g1 g2
        rw [q1]; rfl) (fun i j el c h1 h2 => by
        obtain ⟨g1, rfl⟩ := hget i el h1
        have g2 : j < sz := by rw [← (hf i g1).2.1]; exact (List.getElem?_eq_some_iff.1 h2).1
        obtain ⟨v, q1, q2⟩ := hval i j g1 g2
        rw [q1]
        exact q2 c h2)
      simpa using hro
instance : Inhabited E := ⟨.mk 0 ⟨#[]⟩ []⟩
instance : Inhabited ByteArray := ⟨⟨#[]⟩⟩
theorem pv_len (e : E) : e.pv.length = 3 := by rw [E.pv_eq]; rfl
theorem str_of {sp : Nat → Bool} {held : Bool} {n : Nat} {cs : List Value} {x : DataW H × List MemPlace} (h : DataW.trod enc Tryd.prog W 0 sp held n 9 cs = some x) : ∃ s : ByteArray, cs = [.string s] ∧ s.size ≤ maxLen := by
  obtain ⟨s, h1, _, h2⟩ := DataW.trod_string Tryd.underlying9 h
  exact ⟨s, h1, h2⟩
set_option maxRecDepth 20000 in
theorem reads25 (n : Nat) : ∀ (cs : List Value) (x : DataW H × List MemPlace), DataW.trod enc Tryd.prog W 0 (fun _ => true) true n 25 cs = some x →
    ∃ e : E, e.small ∧ cs.length = 3 ∧ ∀ (j : Nat) (c : PV) (v : Value), e.pv[j]? = some c → cs[j]? = some v → RepP W (allOf W) c v := by
  induction n using Nat.strongRecOn with
  | _ n ih =>
    intro cs x h
    obtain ⟨xs, m, rfl, rfl, hl, hx, hi⟩ := DataW.trod_struct Tryd.underlying25 h
    rw [cells25] at hl
    match cs, hl with
    | [c0, c1, c2], _ =>
      have g : ∀ i, i < 3 → ∃ y, xs[i]? = some y := fun i hi3 => ⟨_, List.getElem?_eq_getElem (by rw [hx]; exact hi3)⟩
      have h0 := hi 0 _ rfl
      have h1 := hi 1 _ rfl
      have h2 := hi 2 _ rfl
      obtain ⟨y0, e0⟩ := g 0 (by decide)
      obtain ⟨y1, e1⟩ := g 1 (by decide)
      obtain ⟨y2, e2⟩ := g 2 (by decide)
      rw [e0] at h0
      rw [e1] at h1
      rw [e2] at h2
      replace h0 : DataW.trod enc Tryd.prog W 0 (fun _ => true) true m 5 [c0] = some y0 := by simpa [cells5] using h0
      replace h1 : DataW.trod enc Tryd.prog W 0 (fun _ => true) true m 9 [c1] = some y1 := by simpa [cells9] using h1
      replace h2 : DataW.trod enc Tryd.prog W 0 (fun _ => true) true m 23 [c2] = some y2 := by simpa [cells23] using h2
      obtain ⟨op, q0, _, _⟩ := DataW.trod_int Tryd.underlying5 h0
      obtain ⟨s, q1, hs⟩ := str_of h1
      obtain ⟨l, v, q2, hsm, hr, _⟩ := reads_slice (e := 25) (sz := 3) Tryd.underlying23 cells25 (by decide) E.pv E.small m (fun k hk cs x hx => by
        obtain ⟨e, a1, a2, a3⟩ := ih k (by omega) cs x hx
        exact ⟨e, a1, pv_len e, a3⟩) _ _ h2
      obtain rfl : c0 = .int .u8 op := by simpa using q0
      obtain rfl : c1 = .string s := by simpa using q1
      obtain rfl : c2 = v := by simpa using q2
      refine ⟨.mk op s l, E.small_mk (Nat.le_trans hs (by decide)) hsm, rfl, fun j c v h3 h4 => ?_⟩
      rw [E.pv_eq] at h3
      match j, h3, h4 with
      | 0, h3, h4 => simp at h3 h4; subst h3 h4; exact .val _ rfl
      | 1, h3, h4 => simp at h3 h4; subst h3 h4; exact .val _ rfl
      | 2, h3, h4 => simp at h3 h4; subst h3 h4; exact hr
abbrev noHd : Nm → Hd := fun _ => .dead
theorem arg25 {v : Value} {d : DataW H} {p : List MemPlace} (h : DataW.Trod enc Tryd.prog W 0 (fun _ => true) true 25 v d p) : ∃ e : E, e.small ∧ Rep W (allOf W) noHd e.av v := by
  obtain ⟨n, hn⟩ := h
  obtain ⟨e, h1, h2, h3⟩ := reads25 n _ _ hn
  refine ⟨e, h1, ?_⟩
  have hv : ∃ cs : List Value, v = .agg cs.toArray ∧ v.cells.toList = cs := by
    cases v with
    | agg a => exact ⟨a.toList, by simp, rfl⟩
    | _ => simp [Value.cells] at h2
  obtain ⟨cs, rfl, hc⟩ := hv
  rw [hc] at h2 h3
  have hp : ∀ (j : Nat) (c : AV) (v : Value), e.cells[j]? = some c → cs[j]? = some v → ∃ q, c = .pv q ∧ RepP W (allOf W) q v := by
    intro j c v hj hv
    have : e.cells = e.pv.map AV.pv := by rw [E.pv_eq]; rfl
    rw [this, List.getElem?_map] at hj
    cases hq : e.pv[j]? with
    | none => rw [hq] at hj; cases hj
    | some q => rw [hq] at hj; cases hj; exact ⟨q, rfl, h3 j q v hq hv⟩
  refine .agg e.cells cs (by rw [h2]; rfl) (fun j c v hj hv => ?_) fun v hv => ?_
  · obtain ⟨q, rfl, hq⟩ := hp j c v hj hv
    exact .pv q v hq
  · obtain ⟨j, hj⟩ := List.getElem?_of_mem hv
    have : j < e.cells.length := by rw [show e.cells.length = 3 from rfl, ← h2]; exact (List.getElem?_eq_some_iff.1 hj).1
    obtain ⟨q, _, hq⟩ := hp j _ v (List.getElem?_eq_getElem this) hj
    exact hq.one
set_option maxRecDepth 20000 in
theorem arg42 {b0 : Nat} {v : Value} {d : DataW H} {p : List MemPlace} (hok : Value.okWide Tryd.prog W .any b0 42 v) (h : DataW.Trod enc Tryd.prog W 0 (fun _ => true) true 42 v d p) :
    ∃ l : List ByteArray, Rep W (allOf W) noHd (rowAV l) v ∧ (d = .nil ∧ l = [] ∨ ∃ es sp, d = .slice es sp ∧ es.length = l.length) ∧ ∀ s ∈ l, s.size ≤ maxLen := by
  obtain ⟨n, hn⟩ := h
  obtain ⟨l, u, h1, hg, h2, h3⟩ := reads_slice (e := 9) (sz := 1) Tryd.underlying42 cells9 (by decide) (fun s : ByteArray => [.val (.string s)]) (fun s => s.size ≤ maxLen) n (fun m _ cs x hx => by
    obtain ⟨s, rfl, hs⟩ := str_of hx
    refine ⟨s, hs, rfl, fun j c v h3 h4 => ?_⟩
    match j, h3, h4 with
    | 0, h3, h4 => simp at h3 h4; subst h3 h4; exact .val _ rfl) _ _ hn
  have hv : v = u := by
    obtain ⟨A, k, c, rfl⟩ := okWide_slice Tryd.underlying42 hok
    simpa [Value.cells] using h1
  subst hv
  exact ⟨l, .pv _ _ h2, h3, hg⟩
set_option maxRecDepth 20000 in
theorem arg9 {b0 : Nat} {v : Value} {d : DataW H} {p : List MemPlace} (hok : Value.okWide Tryd.prog W .any b0 9 v) (h : DataW.Trod enc Tryd.prog W 0 (fun _ => true) true 9 v d p) : ∃ s : ByteArray, Rep W (allOf W) noHd (vS s) v ∧ s.size ≤ maxLen := by
  obtain ⟨s, rfl, _, _, h4⟩ := Go.ChangeMaps.open_string Tryd.underlying9 hok h
  exact ⟨s, rep_val rfl, h4⟩
end
end Go.Proofs.D
