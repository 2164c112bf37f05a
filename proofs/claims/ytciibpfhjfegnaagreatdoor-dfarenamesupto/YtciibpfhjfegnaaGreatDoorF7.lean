/-
  STATES THAT MEAN THE SAME ARE MADE ONE: the least table.
-/
import Derived.Test.YtciibpfhjfegnaaGreatDoorL5
set_option linter.unusedVariables false
set_option linter.unusedSimpArgs false
namespace Go.Proofs.D
open Go Go.Abs
/-- Numbers of what is alike, as it is met; how many there are. -/
def relab {α : Type} [DecidableEq α] (l : List α) : List Int × Nat := ((rowK id [] (l.map some)).2, (rowK id [] (l.map some)).1.length)
theorem relab_spec {α : Type} [DecidableEq α] (l : List α) : (relab l).1.length = l.length ∧ (∀ (i : Nat) (x : α), l[i]? = some x → ∃ n : Nat, (relab l).1[i]? = some (n : Int) ∧ n < (relab l).2) ∧
    (∀ (i j : Nat) (x y : α) (s t : Int), l[i]? = some x → l[j]? = some y → (relab l).1[i]? = some s → (relab l).1[j]? = some t → (s = t ↔ x = y)) ∧ (∀ v, v < (relab l).2 → ∃ i : Nat, (relab l).1[i]? = some (v : Int)) := by
  obtain ⟨m, h1, h2, h3, h4, h5, _⟩ := rowK_spec (σ := α) (κ := α) id (l.map some) [] (by simp)
  rw [List.length_map] at h4
  unfold relab
  rw [List.nil_append] at h1
  generalize rowK id [] (l.map some) = p at h1 h2 h4 h5
  obtain ⟨all, r⟩ := p
  simp only at h1 h2 h4 h5
  subst h1
  rw [List.map_id] at h2
  have say : ∀ (i : Nat) (x : α), l[i]? = some x → ∃ n : Nat, r[i]? = some (n : Int) ∧ all[n]? = some x := fun i x hx => by
    have hi := (List.getElem?_eq_some_iff.1 hx).1
    have hr : r[i]? = some (r[i]'(by omega)) := by simp
    obtain ⟨n, e, hn⟩ := h5 i (some x) _ (by rw [List.getElem?_map, hx]; rfl) hr
    rw [List.map_id] at hn
    exact ⟨n, by rw [hr, e], hn⟩
  refine ⟨h4, fun i x hx => ?_, fun i j x y s t hx hy hs ht => ?_, fun v hv => ?_⟩
  · obtain ⟨n, a, b⟩ := say i x hx
    exact ⟨n, a, (List.getElem?_eq_some_iff.1 b).1⟩
  · obtain ⟨n, a, b⟩ := say i x hx
    obtain ⟨n', a', b'⟩ := say j y hy
    rw [hs] at a
    rw [ht] at a'
    cases a
    cases a'
    constructor
    · intro e
      have : n = n' := by omega
      subst this
      rw [b] at b'
      exact Option.some.inj b'
    · intro e
      subst e
      obtain ⟨p1, p2⟩ := List.getElem?_eq_some_iff.1 b
      obtain ⟨q1, q2⟩ := List.getElem?_eq_some_iff.1 b'
      rcases Nat.lt_trichotomy n n' with g | g | g
      · exact absurd (p2.trans q2.symm) (List.pairwise_iff_getElem.1 h2 _ _ p1 q1 g)
      · omega
      · exact absurd (q2.trans p2.symm) (List.pairwise_iff_getElem.1 h2 _ _ q1 p1 g)
  · obtain ⟨x, hx⟩ : ∃ x, all[v]? = some x := ⟨all[v], by simp⟩
    have hxl := h3 x (List.mem_of_getElem? hx)
    obtain ⟨y, hy, e⟩ := List.mem_map.1 hxl
    cases e
    obtain ⟨i, hi⟩ := List.getElem?_of_mem hy
    obtain ⟨n, a, b⟩ := say i x hi
    obtain ⟨p1, p2⟩ := List.getElem?_eq_some_iff.1 b
    obtain ⟨q1, q2⟩ := List.getElem?_eq_some_iff.1 hx
    have : n = v := by
      rcases Nat.lt_trichotomy n v with g | g | g
      · exact absurd (p2.trans q2.symm) (List.pairwise_iff_getElem.1 h2 _ _ p1 q1 g)
      · exact g
      · exact absurd (q2.trans p2.symm) (List.pairwise_iff_getElem.1 h2 _ _ q1 p1 g)
    exact ⟨i, by rw [a, this]⟩
def clsOf (C : List Int) (t : Int) : Int := if t < 0 then -1 else C.getD t.toNat 0
def signOf (d : Au) (C : List Int) (i : Nat) : List Int := C.getD i 0 :: ((d.next[i]?).getD []).map (clsOf C)
def signs (d : Au) (C : List Int) : List (List Int) := (List.range d.next.length).map (signOf d C)
def cls0 (d : Au) : List Int := d.final.map fun b => if b = true then 1 else 0
/-- What is known of classes: what means the same is in one; in one, rows end alike; those up to many are there. -/
structure Cls (d : Au) (L : Nat → Row → Prop) (C : List Int) (many : Nat) : Prop where
  len : C.length = d.next.length
  pos : ∀ c ∈ C, 0 ≤ c
  alike : ∀ i j, i < d.next.length → j < d.next.length → (∀ w, L i w ↔ L j w) → C.getD i 0 = C.getD j 0
  fin : ∀ i j, i < d.next.length → j < d.next.length → C.getD i 0 = C.getD j 0 → d.final.getD i false = d.final.getD j false
  all : ∀ v, v < many → ∃ i : Nat, i < d.next.length ∧ C.getD i 0 = v
def Exact (d : Au) (L : Nat → Row → Prop) (C : List Int) : Prop := ∀ i j, i < d.next.length → j < d.next.length → (C.getD i 0 = C.getD j 0 ↔ ∀ w, L i w ↔ L j w)
theorem stp_st {d : Au} {L : Nat → Row → Prop} (h : Sem0 d L) (hn : d.names.Nodup) {i : Nat} (hi : i < d.next.length) (a : ByteArray) : d.st (d.stp i a) ∧ ∀ w, L i (a :: w) ↔ LI L (d.stp i a) w := by
  obtain ⟨h1, h2⟩ := sem_step h (s := i) (.inr ⟨by omega, by simpa using hi⟩) a
  refine ⟨h1, fun w => ?_⟩
  rw [← h2 w]
  unfold LI
  simp
/-- Whether there is a next state hangs on what is meant. -/
def Even (d : Au) (L : Nat → Row → Prop) : Prop := ∀ i j, i < d.next.length → j < d.next.length → ∀ a ∈ d.names, (∀ w, L i (a :: w) ↔ L j (a :: w)) → (d.stp i a < 0 ↔ d.stp j a < 0)
theorem even_live {d : Au} {L : Nat → Row → Prop} (h : Sem d L) (hn : d.names.Nodup) : Even d L := by
  intro i j hi hj a ha hL
  obtain ⟨p1, p2⟩ := stp_st h.toSem0 hn hi a
  obtain ⟨q1, q2⟩ := stp_st h.toSem0 hn hj a
  constructor
  · intro hlt
    have := sem_dead h q1 fun w q => by
      have := (p2 w).1 ((hL w).2 ((q2 w).2 q))
      have := this.1
      omega
    omega
  · intro hlt
    have := sem_dead h p1 fun w q => by
      have := (q2 w).1 ((hL w).1 ((p2 w).2 q))
      have := this.1
      omega
    omega
theorem clsOf_alike {d : Au} {L : Nat → Row → Prop} (h : Sem0 d L) (hn : d.names.Nodup) (hz : Even d L) {C : List Int} {many : Nat} (hC : Cls d L C many) {i j : Nat} (hi : i < d.next.length) (hj : j < d.next.length) {a : ByteArray} (ha : a ∈ d.names) (hL : ∀ w, L i (a :: w) ↔ L j (a :: w)) : clsOf C (d.stp i a) = clsOf C (d.stp j a) := by
  have hz := hz i j hi hj a ha hL
  obtain ⟨p1, p2⟩ := stp_st h hn hi a
  obtain ⟨q1, q2⟩ := stp_st h hn hj a
  unfold clsOf
  by_cases h0 : d.stp i a < 0
  · rw [if_pos h0, if_pos (hz.1 h0)]
  · have h1 : ¬ d.stp j a < 0 := fun q => h0 (hz.2 q)
    rw [if_neg h0, if_neg h1]
    have hs' : (d.stp i a).toNat < d.next.length := by rcases p1 with q | q; omega; exact q.2
    have ht' : (d.stp j a).toNat < d.next.length := by rcases q1 with q | q; omega; exact q.2
    refine hC.alike _ _ hs' ht' fun w => ?_
    have e1 := p2 w
    have e2 := q2 w
    unfold LI at e1 e2
    constructor
    · intro q; exact (e2.1 ((hL w).1 (e1.2 ⟨by omega, q⟩))).2
    · intro q; exact (e1.1 ((hL w).2 (e2.2 ⟨by omega, q⟩))).2
theorem signs_get {d : Au} {L : Nat → Row → Prop} (h : Sem0 d L) (hn : d.names.Nodup) {C : List Int} {i : Nat} (hi : i < d.next.length) : (signs d C)[i]? = some (signOf d C i) := by simp [signs, hi]
section
variable {d : Au} {L : Nat → Row → Prop} (h : Sem0 d L) (hn : d.names.Nodup) (hz : Even d L)
include h
theorem cls_start : Cls d L (cls0 d) 0 := by
  have hg : ∀ i, i < d.next.length → (cls0 d).getD i 0 = if d.final.getD i false = true then 1 else 0 := fun i hi => by
    have : i < d.final.length := by rw [h.len]; exact hi
    simp [cls0, List.getD, this]
  refine ⟨by rw [cls0, List.length_map, h.len], fun c hc => ?_, fun i j hi hj hL => ?_, fun i j hi hj hc => ?_, fun v hv => absurd hv (by omega)⟩
  · obtain ⟨b, _, rfl⟩ := List.mem_map.1 hc
    split <;> decide
  · rw [hg i hi, hg j hj]
    have e : d.final.getD i false = d.final.getD j false := by
      rw [Bool.eq_iff_iff, h.fin i hi, h.fin j hj]
      exact hL []
    rw [e]
  · rw [hg i hi, hg j hj] at hc
    generalize d.final.getD i false = x at hc ⊢
    generalize d.final.getD j false = y at hc ⊢
    cases x <;> cases y <;> simp at hc ⊢
include hn
theorem sign_step {C : List Int} {i j : Nat} (hi : i < d.next.length) (hj : j < d.next.length) : signOf d C i = signOf d C j ↔ C.getD i 0 = C.getD j 0 ∧ ∀ a ∈ d.names, clsOf C (d.stp i a) = clsOf C (d.stp j a) := by
  have e1 : d.next[i]? = some d.next[i] := by simp
  have e2 : d.next[j]? = some d.next[j] := by simp
  have l1 := h.row d.next[i] (List.getElem_mem _)
  have l2 := h.row d.next[j] (List.getElem_mem _)
  unfold signOf
  rw [e1, e2, Option.getD_some, Option.getD_some, List.cons.injEq]
  refine and_congr_right fun _ => ?_
  constructor
  · intro e a ha
    obtain ⟨k, hk⟩ := List.getElem?_of_mem ha
    have g1 := getRow h hn e1 hk
    have g2 := getRow h hn e2 hk
    have := congrArg (fun l : List Int => l[k]?) e
    simp only [List.getElem?_map, g1, g2, Option.map_some, Option.some.injEq] at this
    exact this
  · intro e
    apply List.ext_getElem?
    intro k
    by_cases hk : k < d.names.length
    · have hk' : d.names[k]? = some d.names[k] := by simp
      rw [List.getElem?_map, List.getElem?_map, getRow h hn e1 hk', getRow h hn e2 hk']
      simp [e d.names[k] (List.getElem_mem _)]
    · rw [List.getElem?_eq_none (by simp; omega), List.getElem?_eq_none (by simp; omega)]
include hz
/-- One round: classes are told apart by what stands behind them. -/
theorem cls_round {C : List Int} {many : Nat} (hC : Cls d L C many) : Cls d L (relab (signs d C)).1 (relab (signs d C)).2 ∧ 0 < (relab (signs d C)).2 ∧ many ≤ (relab (signs d C)).2 ∧ (relab (signs d C)).2 ≤ d.next.length ∧ ((relab (signs d C)).2 = many → Exact d L (relab (signs d C)).1 ∧ Exact d L C) ∧ (∀ i j, i < d.next.length → j < d.next.length → (relab (signs d C)).1.getD i 0 = (relab (signs d C)).1.getD j 0 → C.getD i 0 = C.getD j 0) := by
  obtain ⟨r1, r2, r3, r4⟩ := relab_spec (signs d C)
  have hsl : (signs d C).length = d.next.length := by simp [signs]
  rw [hsl] at r1
  generalize relab (signs d C) = p at r1 r2 r3 r4
  obtain ⟨C', many'⟩ := p
  simp only at r1 r2 r3 r4 ⊢
  have hsg := fun i hi => signs_get (C := C) h hn (i := i) hi
  have hlab : ∀ i, i < d.next.length → ∃ n : Nat, C'.getD i 0 = n ∧ n < many' ∧ C'[i]? = some (n : Int) := fun i hi => by
    obtain ⟨n, a, b⟩ := r2 i _ (hsg i hi)
    exact ⟨n, by simp [List.getD, a], b, a⟩
  have hiff : ∀ i j, i < d.next.length → j < d.next.length → (C'.getD i 0 = C'.getD j 0 ↔ signOf d C i = signOf d C j) := fun i j hi hj => by
    obtain ⟨n, a, b, c⟩ := hlab i hi
    obtain ⟨n', a', b', c'⟩ := hlab j hj
    rw [a, a']
    exact r3 i j _ _ _ _ (hsg i hi) (hsg j hj) c c'
  have hidx : ∀ v, v < many' → ∃ i : Nat, i < d.next.length ∧ C'.getD i 0 = v := fun v hv => by
    obtain ⟨i, hi⟩ := r4 v hv
    have := (List.getElem?_eq_some_iff.1 hi).1
    exact ⟨i, by omega, by simp [List.getD, hi]⟩
  have hCls : Cls d L C' many' := by
    refine ⟨r1, fun c hc => ?_, fun i j hi hj hL => ?_, fun i j hi hj hc => ?_, hidx⟩
    · obtain ⟨i, hi⟩ := List.getElem?_of_mem hc
      have hil := (List.getElem?_eq_some_iff.1 hi).1
      obtain ⟨n, a, b, e⟩ := hlab i (by omega)
      rw [hi] at e
      cases e
      omega
    · refine (hiff i j hi hj).2 ((sign_step h hn hi hj).2 ⟨hC.alike i j hi hj hL, fun a ha => ?_⟩)
      exact clsOf_alike h hn hz hC hi hj ha fun w => hL (a :: w)
    · exact hC.fin i j hi hj ((sign_step h hn hi hj).1 ((hiff i j hi hj).1 hc)).1
  -- how many there are
  have hle : many' ≤ d.next.length := by
    have := nodup_sub_len ((List.range many').map fun v : Nat => (v : Int)) C' (nodup_map _ _ List.nodup_range fun x _ y _ e => by omega) fun x hx => by
      obtain ⟨v, hv, rfl⟩ := List.mem_map.1 hx
      obtain ⟨i, hi⟩ := r4 v (List.mem_range.1 hv)
      exact List.mem_of_getElem? hi
    simp at this
    omega
  have hreach : ∀ (V : List Int), V.Nodup → (∀ c ∈ V, ∃ i : Nat, i < d.next.length ∧ C.getD i 0 = c) → ∀ (X : List Nat), (∀ i, i < d.next.length → ∃ v ∈ X, C.getD i 0 = C.getD ((fun v => if hv : v < many' then (hidx v hv).choose else 0) v) 0) → V.length ≤ X.length := by
    intro V hV hc X hX
    have := nodup_sub_len V (X.map fun v => C.getD ((fun v => if hv : v < many' then (hidx v hv).choose else 0) v) 0) hV fun c hcv => by
      obtain ⟨i, hi, e⟩ := hc c hcv
      obtain ⟨v, hv, e'⟩ := hX i hi
      exact List.mem_map.2 ⟨v, hv, by rw [← e', e]⟩
    rwa [List.length_map] at this
  have hrep : ∀ (v : Nat) (hv : v < many'), (hidx v hv).choose < d.next.length ∧ C'.getD (hidx v hv).choose 0 = v := fun v hv => (hidx v hv).choose_spec
  have hcov : ∀ i, i < d.next.length → ∃ v, v < many' ∧ C'.getD i 0 = v ∧ C.getD i 0 = C.getD ((fun v => if hv : v < many' then (hidx v hv).choose else 0) v) 0 := fun i hi => by
    obtain ⟨n, a, b, _⟩ := hlab i hi
    refine ⟨n, b, a, ?_⟩
    simp only [dif_pos b]
    obtain ⟨x, y⟩ := hrep n b
    exact ((sign_step h hn hi x).1 ((hiff i _ hi x).1 (a.trans y.symm))).1
  have hV : ∀ c ∈ (List.range many).map (fun v : Nat => (v : Int)), ∃ i : Nat, i < d.next.length ∧ C.getD i 0 = c := fun c hc => by
    obtain ⟨v, hv, rfl⟩ := List.mem_map.1 hc
    exact hC.all v (List.mem_range.1 hv)
  have hVn : ((List.range many).map (fun v : Nat => (v : Int))).Nodup := nodup_map _ _ List.nodup_range fun x _ y _ e => by omega
  have hmm : many ≤ many' := by
    have := hreach _ hVn hV (List.range many') fun i hi => by
      obtain ⟨v, a, _, b⟩ := hcov i hi
      exact ⟨v, List.mem_range.2 a, b⟩
    simpa using this
  refine ⟨hCls, ?_, hmm, hle, fun heq => ?_, fun i j hi hj hc => ((sign_step h hn hi hj).1 ((hiff i j hi hj).1 hc)).1⟩
  · obtain ⟨n, _, b, _⟩ := hlab 0 h.pos
    omega
  · subst heq
    -- the rounds before told as many apart
    have hsame : ∀ i j, i < d.next.length → j < d.next.length → C.getD i 0 = C.getD j 0 → C'.getD i 0 = C'.getD j 0 := by
      intro i j hi hj hc
      refine Classical.byContradiction fun hne => ?_
      obtain ⟨vi, a1, a2, a3⟩ := hcov i hi
      obtain ⟨vj, b1, b2, b3⟩ := hcov j hj
      have hvij : vi ≠ vj := fun e => hne (by rw [a2, b2, e])
      have := hreach _ hVn hV ((List.range many').filter (fun v => decide (v ≠ vj))) fun k hk => by
        obtain ⟨v, c1, c2, c3⟩ := hcov k hk
        by_cases hv : v = vj
        · exact ⟨vi, by simp [a1, hvij], by rw [c3, hv, ← b3, ← hc, a3]⟩
        · exact ⟨v, by simp [c1, hv], c3⟩
      have hfl : ((List.range many').filter (fun v => decide (v ≠ vj))).length < many' := by
        have h1 : ((List.range many').filter (fun v => decide (v ≠ vj))).length ≤ ((List.range many').erase vj).length := nodup_sub_len _ _ (List.nodup_range.filter _) fun x hx => by
          simp at hx
          exact (List.mem_erase_of_ne hx.2).2 (List.mem_range.2 hx.1)
        have h2 := List.length_erase_of_mem (List.mem_range.2 b1)
        simp at h2
        omega
      simp only [List.length_map, List.length_range] at this
      omega
    have hstab : ∀ i j, i < d.next.length → j < d.next.length → C.getD i 0 = C.getD j 0 → ∀ a ∈ d.names, clsOf C (d.stp i a) = clsOf C (d.stp j a) := fun i j hi hj hc => ((sign_step h hn hi hj).1 ((hiff i j hi hj).1 (hsame i j hi hj hc))).2
    have hlang : ∀ (w : Row) (i j : Nat), i < d.next.length → j < d.next.length → C.getD i 0 = C.getD j 0 → (L i w ↔ L j w) := by
      intro w
      induction w with
      | nil =>
        intro i j hi hj hc
        rw [← h.fin i hi, ← h.fin j hj, hC.fin i j hi hj hc]
      | cons a w ih =>
        intro i j hi hj hc
        by_cases ha : a ∈ d.names
        · obtain ⟨p1, p2⟩ := stp_st h hn hi a
          obtain ⟨q1, q2⟩ := stp_st h hn hj a
          rw [p2 w, q2 w]
          have hcl := hstab i j hi hj hc a ha
          generalize d.stp (i : Int) a = s at p1 hcl
          generalize d.stp (j : Int) a = t at q1 hcl
          have hpos : ∀ k, k < d.next.length → 0 ≤ C.getD k 0 := fun k hk => by
            have hkl : k < C.length := by rw [hC.len]; exact hk
            have := hC.pos C[k] (List.getElem_mem _)
            simpa [List.getD, hkl] using this
          unfold clsOf at hcl
          rcases p1 with rfl | ⟨p0, p1⟩
          · rcases q1 with rfl | ⟨q0, q1⟩
            · rfl
            · have := hpos _ q1
              rw [if_pos (by decide), if_neg (by omega)] at hcl
              omega
          · rcases q1 with rfl | ⟨q0, q1⟩
            · have := hpos _ p1
              rw [if_neg (by omega), if_pos (by decide)] at hcl
              omega
            · rw [if_neg (by omega), if_neg (by omega)] at hcl
              unfold LI
              have := ih s.toNat t.toNat p1 q1 hcl
              simp [p0, q0, this]
        · exact ⟨fun q => absurd (h.only i hi a w q) ha, fun q => absurd (h.only j hj a w q) ha⟩
    refine ⟨fun i j hi hj => ⟨fun hc w => ?_, fun hL => hCls.alike i j hi hj hL⟩, fun i j hi hj => ⟨fun hc w => hlang w i j hi hj hc, fun hL => hC.alike i j hi hj hL⟩⟩
    exact hlang w i j hi hj ((sign_step h hn hi hj).1 ((hiff i j hi hj).1 hc)).1
end
/-- The table whose states are the classes, as they are met. -/
def nextN (d : Au) (s : Nat) : List (Option Nat) := ((d.next[s]?).getD []).map fun t => if t < 0 then none else some t.toNat
def numM (d : Au) (C : List Int) (i : Nat) : List Nat × List (List Int) := met (fun s => C.getD s 0) (nextN d) 0 i
def numbered (d : Au) (C : List Int) : Au := ⟨d.names, (numM d C d.next.length).2, (numM d C d.next.length).1.map fun s => d.final.getD s false⟩
theorem numM_of {d : Au} {L : Nat → Row → Prop} (h : Sem0 d L) (hn : d.names.Nodup) (C : List Int) (i : Nat) : ∀ s ∈ (numM d C i).1, s < d.next.length := by
  refine met_all _ _ _ (fun s => s < d.next.length) h.pos (fun s hs t ht => ?_) i
  obtain ⟨x, hx, e⟩ := List.mem_map.1 ht
  split at e
  · cases e
  · rename_i g
    cases e
    have e1 : d.next[s]? = some d.next[s] := by simp
    rw [e1, Option.getD_some] at hx
    obtain ⟨k, hk⟩ := List.getElem?_of_mem hx
    have hkl := (List.getElem?_eq_some_iff.1 hk).1
    have hkn : k < d.names.length := by rw [← h.row d.next[s] (List.getElem_mem _)]; exact hkl
    have := getRow h hn e1 (show d.names[k]? = some d.names[k] by simp)
    rw [hk] at this
    cases this
    rcases (stp_st h hn hs d.names[k]).1 with q | q
    · omega
    · exact q.2
theorem numM_len {d : Au} {L : Nat → Row → Prop} (h : Sem0 d L) (hn : d.names.Nodup) (C : List Int) (i : Nat) : (numM d C i).1.length ≤ d.next.length := by
  have hM := met_is (fun s => C.getD s 0) (nextN d) 0 i
  have h1 : (numM d C i).1.Nodup := by
    have := hM.nodup
    exact (List.pairwise_map.1 this).imp fun hne e => hne (by rw [e])
  have := nodup_sub_len _ (List.range d.next.length) h1 fun s hs => List.mem_range.2 (numM_of h hn C i s hs)
  simpa using this
def numL (d : Au) (C : List Int) (L : Nat → Row → Prop) (i : Nat) (w : Row) : Prop := ∃ s, (numM d C d.next.length).1[i]? = some s ∧ L s w
theorem numbered_least0 {d : Au} {L : Nat → Row → Prop} (h : Sem0 d L) (hn : d.names.Nodup) {C : List Int} (hC : Exact d L C) (hlive : ∀ s ∈ (numM d C d.next.length).1, ∃ w, L s w) : Least (numbered d C) (numL d C L) ∧ ∀ w, numL d C L 0 w ↔ L 0 w := by
  have hM : Met (fun s => C.getD s 0) (nextN d) 0 d.next.length (numM d C d.next.length).1 (numM d C d.next.length).2 := met_is _ _ _ _
  have hlen := numM_len h hn C d.next.length
  have hof := numM_of h hn C d.next.length
  unfold numbered numL
  generalize numM d C d.next.length = M at hM hlen hof hlive
  obtain ⟨all, rows⟩ := M
  simp only at hM hlen hof hlive
  have h0 := met_pos _ _ _ hM
  have hrl : rows.length = all.length := by rcases hM.many with g | g <;> omega
  have hrow : ∀ i, i < all.length → ∃ s r, all[i]? = some s ∧ rows[i]? = some r ∧ s < d.next.length := fun i hi => ⟨all[i], rows[i]'(by omega), by simp, by simp, hof _ (List.getElem_mem _)⟩
  have hlenr : ∀ r ∈ rows, r.length = d.names.length := fun r hr => by
    obtain ⟨i, hi⟩ := List.getElem?_of_mem hr
    have hil := (List.getElem?_eq_some_iff.1 hi).1
    have hi' : i < all.length := by omega
    have hs := hof all[i] (List.getElem_mem _)
    rw [(hM.row i all[i] r (by simp) hi).1, nextN, List.length_map, List.getElem?_eq_getElem hs, Option.getD_some]
    exact h.row _ (List.getElem_mem _)
  have hst : ∀ (i s : Nat), all[i]? = some s → ∀ a ∈ d.names, Says (fun s => C.getD s 0) all (if d.stp s a < 0 then none else some (d.stp s a).toNat) ((Au.mk d.names rows (all.map fun s => d.final.getD s false)).stp i a) := by
    intro i s hs a ha
    have hil := (List.getElem?_eq_some_iff.1 hs).1
    have hsl := hof s (List.mem_of_getElem? hs)
    have hr : rows[i]? = some (rows[i]'(by omega)) := by simp
    obtain ⟨g1, g2⟩ := hM.row i s _ hs hr
    have hix := ixK_mem ha
    have hxl : ixK a d.names < (rows[i]'(by omega)).length := by rw [hlenr _ (List.getElem_mem _)]; exact ixK_lt ha
    have e1 : d.next[s]? = some d.next[s] := by simp
    have := g2 (ixK a d.names) (if d.stp s a < 0 then none else some (d.stp s a).toNat) _ (by
      unfold nextN
      rw [List.getElem?_map, e1, Option.getD_some, getRow h hn e1 hix]
      rfl) (List.getElem?_eq_getElem hxl)
    have e2 : (Au.mk d.names rows (all.map fun s => d.final.getD s false)).stp i a = (rows[i]'(by omega))[ixK a d.names] := by
      simp only [Au.stp]
      rw [if_neg (by omega), Int.toNat_natCast, hr, Option.getD_some]
      simp [List.getD, hxl]
    rw [e2]
    exact this
  refine ⟨⟨⟨⟨?_, ?_, hlenr, ?_, ?_, ?_⟩, ?_⟩, ?_, ?_⟩, ?_⟩
  · show 0 < rows.length
    omega
  · show (all.map _).length = rows.length
    rw [List.length_map, hrl]
  · intro i hi
    have hi : i < rows.length := hi
    obtain ⟨s, r, hs, hr, hsl⟩ := hrow i (by omega)
    have : (all.map fun s => d.final.getD s false).getD i false = d.final.getD s false := by simp [List.getD, hs]
    show (all.map fun s => d.final.getD s false).getD i false = true ↔ _
    rw [this, h.fin s hsl]
    exact ⟨fun q => ⟨s, hs, q⟩, fun ⟨s', hs', q⟩ => by rw [hs] at hs'; cases hs'; exact q⟩
  · intro i hi a ha
    have hi : i < rows.length := hi
    obtain ⟨s, r, hs, hr, hsl⟩ := hrow i (by omega)
    have hsay := hst i s hs a ha
    obtain ⟨p1, p2⟩ := stp_st h hn hsl a
    by_cases hneg : d.stp s a < 0
    · rw [if_pos hneg] at hsay
      refine .inl ⟨hsay, fun w => ?_⟩
      rintro ⟨s', hs', q⟩
      rw [hs] at hs'
      cases hs'
      exact absurd ((p2 w).1 q).1 (by omega)
    · rw [if_neg hneg] at hsay
      obtain ⟨n, e, hn'⟩ := hsay
      rw [List.getElem?_map] at hn'
      obtain ⟨u, hu, hk⟩ := Option.map_eq_some_iff.1 hn'
      have hul := hof u (List.mem_of_getElem? hu)
      have hnl := (List.getElem?_eq_some_iff.1 hu).1
      have htl : (d.stp s a).toNat < d.next.length := by rcases p1 with q | q; omega; exact q.2
      have hL := (hC u _ hul htl).1 hk
      refine .inr ⟨n, e, by show n < rows.length; omega, fun w => ?_⟩
      constructor
      · rintro ⟨s', hs', q⟩
        rw [hs] at hs'
        cases hs'
        exact ⟨u, hu, (hL w).2 ((p2 w).1 q).2⟩
      · rintro ⟨u', hu', q⟩
        rw [hu] at hu'
        cases hu'
        exact ⟨s, hs, (p2 w).2 ⟨by omega, (hL w).1 q⟩⟩
  · intro i hi a w
    rintro ⟨s, hs, q⟩
    exact h.only s (hof s (List.mem_of_getElem? hs)) a w q
  · intro i hi
    have hi : i < rows.length := hi
    obtain ⟨s, r, hs, hr, hsl⟩ := hrow i (by omega)
    obtain ⟨w, hw⟩ := hlive s (List.mem_of_getElem? hs)
    exact ⟨w, s, hs, hw⟩
  · intro i j hi hj hL
    have hi : i < rows.length := hi
    have hj : j < rows.length := hj
    obtain ⟨s, _, hs, _, hsl⟩ := hrow i (by omega)
    obtain ⟨t, _, ht, _, htl⟩ := hrow j (by omega)
    have he := (hC s t hsl htl).2 fun w => ⟨fun q => by
      obtain ⟨t', ht', q'⟩ := (hL w).1 ⟨s, hs, q⟩
      rw [ht] at ht'
      cases ht'
      exact q', fun q => by
      obtain ⟨s', hs', q'⟩ := (hL w).2 ⟨t, ht, q⟩
      rw [hs] at hs'
      cases hs'
      exact q'⟩
    have g1 : (all.map fun s => C.getD s 0)[i]? = some (C.getD s 0) := by rw [List.getElem?_map, hs]; rfl
    have g2 : (all.map fun s => C.getD s 0)[j]? = some (C.getD s 0) := by rw [List.getElem?_map, ht, he]; rfl
    obtain ⟨p1, p2⟩ := List.getElem?_eq_some_iff.1 g1
    obtain ⟨q1, q2⟩ := List.getElem?_eq_some_iff.1 g2
    rcases Nat.lt_trichotomy i j with g | g | g
    · exact absurd (p2.trans q2.symm) (List.pairwise_iff_getElem.1 hM.nodup _ _ p1 q1 g)
    · exact g
    · exact absurd (q2.trans p2.symm) (List.pairwise_iff_getElem.1 hM.nodup _ _ q1 p1 g)
  · show tabOrd 0 0 rows = some ((rows.length : Int) - 1)
    rw [hM.ord, hrl]
  · intro w
    constructor
    · rintro ⟨s, hs, q⟩
      rw [hM.first] at hs
      cases hs
      exact q
    · intro q
      exact ⟨0, hM.first, q⟩
theorem numbered_least {d : Au} {L : Nat → Row → Prop} (h : Sem d L) (hn : d.names.Nodup) {C : List Int} (hC : Exact d L C) : Least (numbered d C) (numL d C L) ∧ ∀ w, numL d C L 0 w ↔ L 0 w :=
  numbered_least0 h.toSem0 hn hC fun s hs => h.live s (numM_of h.toSem0 hn C _ s hs)
/-- Whatever classes are exact: it is one table. -/
theorem numbered_one {d : Au} {L : Nat → Row → Prop} (h : Sem d L) (hn : d.names.Nodup) {C C' : List Int} (hC : Exact d L C) (hC' : Exact d L C') : numbered d C = numbered d C' := by
  obtain ⟨h1, h2⟩ := numbered_least h hn hC
  obtain ⟨h3, h4⟩ := numbered_least h hn hC'
  obtain ⟨e1, e2⟩ := least_one h1 h3 hn rfl fun w => (h2 w).trans (h4 w).symm
  have : ∀ a b : Au, a.names = b.names → a.next = b.next → a.final = b.final → a = b := fun ⟨_, _, _⟩ ⟨_, _, _⟩ h1 h2 h3 => by
    simp only at h1 h2 h3
    rw [h1, h2, h3]
  exact this _ _ rfl e1 e2
open Classical in
noncomputable def cstar (n : Nat) (L : Nat → Row → Prop) : List Int := (List.range n).map fun i => ((List.range n).findIdx fun j => decide (∀ w, L j w ↔ L i w) : Nat)
open Classical in
theorem cstar_exact (d : Au) (L : Nat → Row → Prop) : Exact d L (cstar d.next.length L) := by
  intro i j hi hj
  have hg : ∀ i, i < d.next.length → (cstar d.next.length L).getD i 0 = ((List.range d.next.length).findIdx fun j => decide (∀ w, L j w ↔ L i w) : Nat) := fun i hi => by simp [cstar, List.getD, hi]
  rw [hg i hi, hg j hj]
  have hf : ∀ i, i < d.next.length → ∃ hlt : (List.range d.next.length).findIdx (fun j => decide (∀ w, L j w ↔ L i w)) < d.next.length, ∀ w, L ((List.range d.next.length).findIdx (fun j => decide (∀ w, L j w ↔ L i w))) w ↔ L i w := fun i hi => by
    have hlt : (List.range d.next.length).findIdx (fun j => decide (∀ w, L j w ↔ L i w)) < (List.range d.next.length).length := List.findIdx_lt_length_of_exists ⟨i, by simp [hi], by simp⟩
    have := List.findIdx_getElem (w := hlt)
    simp only [List.getElem_range, decide_eq_true_eq] at this
    exact ⟨by simpa using hlt, this⟩
  constructor
  · intro e w
    have e : (List.range d.next.length).findIdx (fun j => decide (∀ w, L j w ↔ L i w)) = (List.range d.next.length).findIdx (fun k => decide (∀ w, L k w ↔ L j w)) := by omega
    obtain ⟨_, h1⟩ := hf i hi
    obtain ⟨_, h2⟩ := hf j hj
    rw [e] at h1
    exact (h1 w).symm.trans (h2 w)
  · intro hL
    have : (fun k => decide (∀ w, L k w ↔ L i w)) = fun k => decide (∀ w, L k w ↔ L j w) := by
      funext k
      congr 1
      apply propext
      exact ⟨fun q w => (q w).trans (hL w), fun q w => (q w).trans (hL w).symm⟩
    rw [this]
/-- The least table of what one means. -/
noncomputable def leastA (d : Au) (L : Nat → Row → Prop) : Au := numbered d (cstar d.next.length L)
theorem leastA_eq {d : Au} {L : Nat → Row → Prop} (h : Sem d L) (hn : d.names.Nodup) {C : List Int} (hC : Exact d L C) : numbered d C = leastA d L := numbered_one h hn hC (cstar_exact d L)
end Go.Proofs.D
/-
  THE LEAST ROW THAT TELLS TWO TABLES APART: pairs of states, in the order in which they are met.
-/
set_option linter.unusedVariables false
set_option linter.unusedSimpArgs false
namespace Go.Proofs.D
open Go Go.Abs
/-! ### rows: the shorter one ahead, of one length by their names' bytes -/
def blt (a b : ByteArray) : Prop := a.data.toList < b.data.toList
theorem bext {a b : ByteArray} (h : a.data.toList = b.data.toList) : a = b := by
  cases a; cases b; simp at h; simp [h]
theorem blt_irrefl (a : ByteArray) : ¬ blt a a := List.lt_irrefl _
theorem blt_trans {a b c : ByteArray} (h : blt a b) (h' : blt b c) : blt a c := List.lt_trans h h'
theorem blt_tri (a b : ByteArray) : blt a b ∨ a = b ∨ blt b a := by
  by_cases h : blt a b
  · exact .inl h
  · by_cases h' : blt b a
    · exact .inr (.inr h')
    · exact .inr (.inl (bext (List.le_antisymm (List.not_lt.1 h') (List.not_lt.1 h))))
def lexlt : Row → Row → Prop
  | a :: u, b :: v => blt a b ∨ (a = b ∧ lexlt u v)
  | _, _ => False
theorem lexlt_irrefl : ∀ u : Row, ¬ lexlt u u
  | [] => fun h => h
  | a :: u => fun h => by
    rcases h with h | ⟨_, h⟩
    · exact blt_irrefl a h
    · exact lexlt_irrefl u h
theorem lexlt_trans : ∀ {u v w : Row}, lexlt u v → lexlt v w → lexlt u w
  | [], _, _, h, _ => h.elim
  | _ :: _, [], _, h, _ => h.elim
  | _ :: _, _ :: _, [], _, h => h.elim
  | a :: u, b :: v, c :: w, h, h' => by
    rcases h with h | ⟨rfl, h⟩
    · rcases h' with h' | ⟨rfl, h'⟩
      · exact .inl (blt_trans h h')
      · exact .inl h
    · rcases h' with h' | ⟨rfl, h'⟩
      · exact .inl h'
      · exact .inr ⟨rfl, lexlt_trans h h'⟩
theorem lexlt_tri : ∀ (u v : Row), u.length = v.length → lexlt u v ∨ u = v ∨ lexlt v u
  | [], [], _ => .inr (.inl rfl)
  | [], _ :: _, h => by simp at h
  | _ :: _, [], h => by simp at h
  | a :: u, b :: v, h => by
    rcases blt_tri a b with g | rfl | g
    · exact .inl (.inl g)
    · rcases lexlt_tri u v (by simpa using h) with g | rfl | g
      · exact .inl (.inr ⟨rfl, g⟩)
      · exact .inr (.inl rfl)
      · exact .inr (.inr (.inr ⟨rfl, g⟩))
    · exact .inr (.inr (.inl g))
theorem lexlt_app : ∀ {u v : Row} (x y : Row), u.length = v.length → lexlt u v → lexlt (u ++ x) (v ++ y)
  | [], _, _, _, _, h => h.elim
  | _ :: _, [], _, _, _, h => h.elim
  | a :: u, b :: v, x, y, hl, h => by
    rcases h with h | ⟨rfl, h⟩
    · exact .inl h
    · exact .inr ⟨rfl, lexlt_app x y (by simpa using hl) h⟩
theorem lexlt_last {x y : ByteArray} (h : blt x y) : ∀ u : Row, lexlt (u ++ [x]) (u ++ [y])
  | [] => .inl h
  | a :: u => .inr ⟨rfl, lexlt_last h u⟩
def slt (u v : Row) : Prop := u.length < v.length ∨ (u.length = v.length ∧ lexlt u v)
def sle (u v : Row) : Prop := u = v ∨ slt u v
theorem slt_irrefl (u : Row) : ¬ slt u u := by
  rintro (h | ⟨_, h⟩)
  · omega
  · exact lexlt_irrefl u h
theorem slt_trans {u v w : Row} (h : slt u v) (h' : slt v w) : slt u w := by
  rcases h with h | ⟨h, g⟩
  · rcases h' with h' | ⟨h', _⟩
    · exact .inl (by omega)
    · exact .inl (by omega)
  · rcases h' with h' | ⟨h', g'⟩
    · exact .inl (by omega)
    · exact .inr ⟨by omega, lexlt_trans g g'⟩
theorem slt_tri (u v : Row) : slt u v ∨ u = v ∨ slt v u := by
  rcases Nat.lt_trichotomy u.length v.length with h | h | h
  · exact .inl (.inl h)
  · rcases lexlt_tri u v h with g | g | g
    · exact .inl (.inr ⟨h, g⟩)
    · exact .inr (.inl g)
    · exact .inr (.inr (.inr ⟨h.symm, g⟩))
  · exact .inr (.inr (.inl h))
theorem sle_trans {u v w : Row} (h : sle u v) (h' : sle v w) : sle u w := by
  rcases h with rfl | h
  · exact h'
  · rcases h' with rfl | h'
    · exact .inr h
    · exact .inr (slt_trans h h')
theorem slt_sle {u v w : Row} (h : slt u v) (h' : sle v w) : slt u w := by
  rcases h' with rfl | h'
  · exact h
  · exact slt_trans h h'
theorem sle_slt {u v w : Row} (h : sle u v) (h' : slt v w) : slt u w := by
  rcases h with rfl | h
  · exact h'
  · exact slt_trans h h'
theorem not_slt {u v : Row} (h : ¬ slt u v) : sle v u := by
  rcases slt_tri u v with g | g | g
  · exact absurd g h
  · exact .inl g.symm
  · exact .inr g
theorem slt_snoc {u v : Row} (x y : ByteArray) (h : slt u v) : slt (u ++ [x]) (v ++ [y]) := by
  rcases h with h | ⟨h, g⟩
  · exact .inl (by simp; omega)
  · exact .inr ⟨by simp [h], lexlt_app _ _ h g⟩
theorem sle_snoc {u v : Row} (x : ByteArray) (h : sle u v) : sle (u ++ [x]) (v ++ [x]) := by
  rcases h with rfl | h
  · exact .inl rfl
  · exact .inr (slt_snoc x x h)
theorem slt_last {x y : ByteArray} (u : Row) (h : blt x y) : slt (u ++ [x]) (u ++ [y]) := .inr ⟨by simp, lexlt_last h u⟩
theorem slt_app (u : Row) (x : ByteArray) : slt u (u ++ [x]) := .inl (by simp)
theorem sle_nil (u : Row) : sle [] u := by
  cases u with
  | nil => exact .inl rfl
  | cons a u => exact .inr (.inl (by simp))

/-! ### the pairs -/
abbrev Way := (Int × Int) × Row
section
variable (a b : Au) (bad : Int → Int → Bool) (names : List ByteArray)
def pr (w : Row) : Int × Int := (a.run 0 w, b.run 0 w)
def stp2 (p : Int × Int) (x : ByteArray) : Int × Int := (a.stp p.1 x, b.stp p.2 x)
theorem pr_snoc (w : Row) (x : ByteArray) : pr a b (w ++ [x]) = stp2 a b (pr a b w) x := by
  simp [pr, stp2, run_append, run_cons, run_nil]
/-- Ways that were found, those up to the i-th gone on from; and from the i-th by the names done. -/
structure Ways (i : Nat) (done : List ByteArray) (ways : List Way) : Prop where
  first : ways[0]? = some ((0, 0), [])
  at' : ∀ q ∈ ways, q.1 = pr a b q.2 ∧ ∀ x ∈ q.2, x ∈ names
  nodup : (ways.map (·.1)).Nodup
  alive : ∀ q ∈ ways, q.1 ≠ (-1, -1)
  sorted : ∀ (m m' : Nat) (q q' : Way), m < m' → ways[m]? = some q → ways[m']? = some q' → slt q.2 q'.2
  last : ∀ q ∈ ways, q.2 = [] ∨ ∃ (k : Nat) (p : Way) (x : ByteArray), ways[k]? = some p ∧ q.2 = p.2 ++ [x] ∧ (k < i ∨ (k = i ∧ x ∈ done))
  next : ∀ (k : Nat) (p : Way) (x : ByteArray), ways[k]? = some p → x ∈ names → (k < i ∨ (k = i ∧ x ∈ done)) → stp2 a b p.1 x = (-1, -1) ∨ ∃ q ∈ ways, q.1 = stp2 a b p.1 x ∧ sle q.2 (p.2 ++ [x])
  good : ∀ (k : Nat) (p : Way), ways[k]? = some p → (k < i ∨ (k = i ∧ done ≠ [])) → bad p.1.1 p.1.2 = false
theorem ways_start : Ways a b bad names 0 [] [((0, 0), [])] := by
  refine ⟨rfl, fun q hq => ?_, by simp, fun q hq => ?_, fun m m' q q' hlt h1 h2 => ?_, fun q hq => ?_, fun k p x hk _ h => ?_, fun k p hk h => ?_⟩
  · simp at hq; subst hq; exact ⟨rfl, fun x hx => by cases hx⟩
  · simp at hq; subst hq; decide
  · have := (List.getElem?_eq_some_iff.1 h2).1
    simp at this
    omega
  · simp at hq; subst hq; exact .inl rfl
  · rcases h with h | ⟨_, h⟩
    · omega
    · cases h
  · rcases h with h | ⟨_, h⟩
    · omega
    · exact absurd rfl h
variable {a b bad names}
theorem ways_pos {i : Nat} {done : List ByteArray} {ways : List Way} (h : Ways a b bad names i done ways) : 0 < ways.length := (List.getElem?_eq_some_iff.1 h.first).1
/-- All that was found so far stands ahead of what is found now. -/
theorem ways_ahead {i : Nat} {done rest : List ByteArray} {ways : List Way} {x : ByteArray} (h : Ways a b bad names i done ways) (hn : (done ++ x :: rest).Pairwise blt) {p : Way} (hp : ways[i]? = some p) : ∀ q ∈ ways, slt q.2 (p.2 ++ [x]) := by
  intro q hq
  rcases h.last q hq with e | ⟨k, p', y, hk, e, hki | ⟨rfl, hy⟩⟩
  · rw [e]; exact sle_slt (sle_nil p.2) (slt_app _ _)
  · rw [e]; exact slt_snoc y x (h.sorted k i p' p hki hk hp)
  · rw [hk] at hp
    cases hp
    rw [e]
    exact slt_last _ ((List.pairwise_append.1 hn).2.2 y hy x (by simp))
/-- A name more: what is met already. -/
theorem ways_old {i : Nat} {done rest : List ByteArray} {ways : List Way} {x : ByteArray} (h : Ways a b bad names i done ways) (hn : (done ++ x :: rest).Pairwise blt) {p : Way} (hp : ways[i]? = some p) (hgood : bad p.1.1 p.1.2 = false)
    (hm : stp2 a b p.1 x = (-1, -1) ∨ stp2 a b p.1 x ∈ ways.map (·.1)) : Ways a b bad names i (done ++ [x]) ways := by
  refine { h with last := fun q hq => ?_, next := fun k p' y hk hy hd => ?_, good := fun k p' hk hd => ?_ }
  · rcases h.last q hq with e | ⟨k, p', y, hk, e, hki | ⟨rfl, hy⟩⟩
    · exact .inl e
    · exact .inr ⟨k, p', y, hk, e, .inl hki⟩
    · exact .inr ⟨k, p', y, hk, e, .inr ⟨rfl, by simp [hy]⟩⟩
  · rcases hd with hd | ⟨rfl, hd⟩
    · exact h.next k p' y hk hy (.inl hd)
    · rcases List.mem_append.1 hd with hd | hd
      · exact h.next k p' y hk hy (.inr ⟨rfl, hd⟩)
      · simp at hd
        subst hd
        rw [hk] at hp
        cases hp
        rcases hm with hm | hm
        · exact .inl hm
        · obtain ⟨q, hq, e⟩ := List.mem_map.1 hm
          exact .inr ⟨q, hq, e, .inr (ways_ahead h hn hk q hq)⟩
  · rcases hd with hd | ⟨rfl, _⟩
    · exact h.good k p' hk (.inl hd)
    · rw [hk] at hp; cases hp; exact hgood
/-- .. and one that was not. -/
theorem ways_new {i : Nat} {done rest : List ByteArray} {ways : List Way} {x : ByteArray} (h : Ways a b bad names i done ways) (hn : (done ++ x :: rest).Pairwise blt) (hx : x ∈ names) {p : Way} (hp : ways[i]? = some p) (hgood : bad p.1.1 p.1.2 = false)
    (hm : stp2 a b p.1 x ≠ (-1, -1)) (hm' : stp2 a b p.1 x ∉ ways.map (·.1)) : Ways a b bad names i (done ++ [x]) (ways ++ [(stp2 a b p.1 x, p.2 ++ [x])]) := by
  have hah := ways_ahead h hn hp
  have hpm := List.mem_of_getElem? hp
  have h0 := ways_pos h
  have hil := (List.getElem?_eq_some_iff.1 hp).1
  have old : ∀ (k : Nat) (q : Way), (ways ++ [(stp2 a b p.1 x, p.2 ++ [x])])[k]? = some q → (ways[k]? = some q) ∨ (k = ways.length ∧ q = (stp2 a b p.1 x, p.2 ++ [x])) := fun k q hk => by
    by_cases hlt : k < ways.length
    · rw [List.getElem?_append_left hlt] at hk; exact .inl hk
    · rw [List.getElem?_append_right (by omega)] at hk
      have := (List.getElem?_eq_some_iff.1 hk).1
      simp at this
      have hk0 : k - ways.length = 0 := by omega
      rw [hk0] at hk
      simp at hk
      exact .inr ⟨by omega, hk.symm⟩
  have keep : ∀ (k : Nat) (q : Way), ways[k]? = some q → (ways ++ [(stp2 a b p.1 x, p.2 ++ [x])])[k]? = some q := fun k q hk => by
    rw [List.getElem?_append_left (List.getElem?_eq_some_iff.1 hk).1]; exact hk
  refine ⟨keep 0 _ h.first, fun q hq => ?_, ?_, fun q hq => ?_, fun m m' q q' hlt h1 h2 => ?_, fun q hq => ?_, fun k p' y hk hy hd => ?_, fun k p' hk hd => ?_⟩
  · rcases List.mem_append.1 hq with hq | hq
    · exact h.at' q hq
    · simp at hq
      subst hq
      obtain ⟨e1, e2⟩ := h.at' p hpm
      refine ⟨?_, fun y hy => ?_⟩
      · show stp2 a b p.1 x = pr a b (p.2 ++ [x])
        rw [pr_snoc, e1]
      · rcases List.mem_append.1 hy with hy | hy
        · exact e2 y hy
        · simp at hy; rw [hy]; exact hx
  · rw [List.map_append]
    refine List.nodup_append.2 ⟨h.nodup, by simp, fun u hu v hv => ?_⟩
    simp at hv
    subst hv
    exact fun e => hm' (e ▸ hu)
  · rcases List.mem_append.1 hq with hq | hq
    · exact h.alive q hq
    · simp at hq; subst hq; exact hm
  · rcases old m' q' h2 with g2 | ⟨rfl, rfl⟩
    · rcases old m q h1 with g1 | ⟨rfl, rfl⟩
      · exact h.sorted m m' q q' hlt g1 g2
      · have := (List.getElem?_eq_some_iff.1 g2).1
        omega
    · rcases old m q h1 with g1 | ⟨g1, _⟩
      · exact hah q (List.mem_of_getElem? g1)
      · omega
  · rcases List.mem_append.1 hq with hq | hq
    · rcases h.last q hq with e | ⟨k, p', y, hk, e, hki | ⟨rfl, hy⟩⟩
      · exact .inl e
      · exact .inr ⟨k, p', y, keep k p' hk, e, .inl hki⟩
      · exact .inr ⟨k, p', y, keep k p' hk, e, .inr ⟨rfl, by simp [hy]⟩⟩
    · simp at hq
      subst hq
      exact .inr ⟨i, p, x, keep i p hp, rfl, .inr ⟨rfl, by simp⟩⟩
  · have hki : k < ways.length := by rcases hd with hd | ⟨rfl, _⟩ <;> omega
    rcases old k p' hk with g | ⟨g, _⟩
    · have up : (stp2 a b p'.1 y = (-1, -1) ∨ ∃ q ∈ ways, q.1 = stp2 a b p'.1 y ∧ sle q.2 (p'.2 ++ [y])) → (stp2 a b p'.1 y = (-1, -1) ∨ ∃ q ∈ ways ++ [(stp2 a b p.1 x, p.2 ++ [x])], q.1 = stp2 a b p'.1 y ∧ sle q.2 (p'.2 ++ [y])) := by
        rintro (e | ⟨q, hq, e⟩)
        · exact .inl e
        · exact .inr ⟨q, by simp [hq], e⟩
      rcases hd with hd | ⟨rfl, hd⟩
      · exact up (h.next k p' y g hy (.inl hd))
      · rcases List.mem_append.1 hd with hd | hd
        · exact up (h.next k p' y g hy (.inr ⟨rfl, hd⟩))
        · simp at hd
          subst hd
          rw [g] at hp
          cases hp
          exact .inr ⟨_, List.mem_append.2 (.inr (List.mem_singleton.2 rfl)), rfl, .inl rfl⟩
    · omega
  · have hki : k < ways.length := by rcases hd with hd | ⟨rfl, _⟩ <;> omega
    rcases old k p' hk with g | ⟨g, _⟩
    · rcases hd with hd | ⟨rfl, _⟩
      · exact h.good k p' g (.inl hd)
      · rw [g] at hp; cases hp; exact hgood
    · omega
/-- All names done: on to the next way. -/
theorem ways_turn {i : Nat} {done : List ByteArray} {ways : List Way} (h : Ways a b bad names i done ways) (hd : ∀ x ∈ names, x ∈ done) {p : Way} (hp : ways[i]? = some p) (hgood : bad p.1.1 p.1.2 = false) : Ways a b bad names (i + 1) [] ways := by
  refine { h with last := fun q hq => ?_, next := fun k p' y hk hy hd' => ?_, good := fun k p' hk hd' => ?_ }
  · rcases h.last q hq with e | ⟨k, p', y, hk, e, hki | ⟨rfl, hy⟩⟩
    · exact .inl e
    · exact .inr ⟨k, p', y, hk, e, .inl (by omega)⟩
    · exact .inr ⟨k, p', y, hk, e, .inl (by omega)⟩
  · rcases hd' with hk' | ⟨_, hd'⟩
    · by_cases hki : k < i
      · exact h.next k p' y hk hy (.inl hki)
      · have : k = i := by omega
        subst this
        exact h.next k p' y hk hy (.inr ⟨rfl, hd y hy⟩)
    · cases hd'
  · rcases hd' with hk' | ⟨_, hd'⟩
    · by_cases hki : k < i
      · exact h.good k p' hk (.inl hki)
      · have : k = i := by omega
        subst this
        rw [hk] at hp
        cases hp
        exact hgood
    · exact absurd rfl hd'
theorem pr_dead {a b : Au} : ∀ (w : Row) (s : Int × Int), s = (-1, -1) → (a.run s.1 w, b.run s.2 w) = (-1, -1)
  | [], s, h => by rw [h]; rfl
  | x :: w, s, h => by
    rw [run_cons, run_cons, h, stp_neg a (by decide), stp_neg b (by decide)]
    exact pr_dead w (-1, -1) rfl
/-- Where a row leads: nowhere, or to where a way led that is no greater; or the row is no less than the next way. -/
theorem ways_reach {i : Nat} {ways : List Way} (h : Ways a b bad names i [] ways) (hna : ∀ r ∈ a.next, r.length = a.names.length) (hnb : ∀ r ∈ b.next, r.length = b.names.length) (hnm : ∀ x, x ∈ names ↔ x ∈ a.names ∨ x ∈ b.names) : ∀ (n : Nat) (w : Row), w.length = n → (∀ q, ways[i]? = some q → slt w q.2) →
    pr a b w = (-1, -1) ∨ ∃ q ∈ ways, q.1 = pr a b w ∧ sle q.2 w := by
  intro n
  induction n with
  | zero =>
    intro w hw _
    obtain rfl := List.eq_nil_of_length_eq_zero hw
    exact .inr ⟨_, List.mem_of_getElem? h.first, rfl, .inl rfl⟩
  | succ n ih =>
    intro w hw hlt
    obtain ⟨u, x, rfl⟩ : ∃ u x, w = u ++ [x] := ⟨w.dropLast, w.getLast (by intro e; rw [e] at hw; cases hw), (List.dropLast_concat_getLast _).symm⟩
    have hu : u.length = n := by simpa using hw
    rw [pr_snoc]
    rcases ih u hu (fun q hq => slt_trans (slt_app u x) (hlt q hq)) with e | ⟨q, hq, e, hle⟩
    · left
      rw [e]
      simp [stp2, stp_neg]
    · by_cases hx : x ∈ names
      · obtain ⟨k, hk⟩ := List.getElem?_of_mem hq
        have hki : k < i := by
          refine Classical.byContradiction fun hge => ?_
          by_cases hil : i < ways.length
          · have hqi : ways[i]? = some ways[i] := by simp
            have h1 := hlt _ hqi
            have h2 : sle ways[i].2 q.2 := by
              by_cases hik : i = k
              · subst hik
                rw [hk] at hqi
                cases hqi
                exact .inl rfl
              · exact .inr (h.sorted i k _ _ (by omega) hqi hk)
            exact slt_irrefl _ (slt_sle h1 (sle_trans h2 (sle_trans hle (.inr (slt_app u x)))))
          · have := (List.getElem?_eq_some_iff.1 hk).1
            omega
        rcases h.next k q x hk hx (.inl hki) with e' | ⟨q', hq', e', hle'⟩
        · left; rw [← e]; exact e'
        · right
          exact ⟨q', hq', by rw [e', e], sle_trans hle' (sle_snoc x hle)⟩
      · left
        have h1 : x ∉ a.names := fun q => hx ((hnm x).2 (.inl q))
        have h2 : x ∉ b.names := fun q => hx ((hnm x).2 (.inr q))
        simp [stp2, stp_not a _ h1 hna, stp_not b _ h2 hnb]
/-- FOUND: no row that is less leads to a pair that is bad. -/
theorem ways_found {i : Nat} {ways : List Way} (h : Ways a b bad names i [] ways) (hna : ∀ r ∈ a.next, r.length = a.names.length) (hnb : ∀ r ∈ b.next, r.length = b.names.length) (hnm : ∀ x, x ∈ names ↔ x ∈ a.names ∨ x ∈ b.names) (hd : bad (-1) (-1) = false) {p : Way} (hp : ways[i]? = some p) :
    ∀ w, slt w p.2 → bad (pr a b w).1 (pr a b w).2 = false := by
  intro w hw
  rcases ways_reach h hna hnb hnm w.length w rfl (fun q hq => by rw [hp] at hq; cases hq; exact hw) with e | ⟨q, hq, e, hle⟩
  · rw [e]; exact hd
  · obtain ⟨k, hk⟩ := List.getElem?_of_mem hq
    rw [← e]
    refine h.good k q hk (.inl ?_)
    refine Classical.byContradiction fun hge => ?_
    by_cases hik : i = k
    · subst hik
      rw [hk] at hp
      cases hp
      exact slt_irrefl _ (slt_sle hw hle)
    · exact slt_irrefl _ (slt_trans hw (slt_sle (h.sorted i k _ _ (by omega) hp hk) hle))
/-- ALL GONE ON FROM: no row leads to a pair that is bad. -/
theorem ways_none {i : Nat} {ways : List Way} (h : Ways a b bad names i [] ways) (hna : ∀ r ∈ a.next, r.length = a.names.length) (hnb : ∀ r ∈ b.next, r.length = b.names.length) (hnm : ∀ x, x ∈ names ↔ x ∈ a.names ∨ x ∈ b.names) (hd : bad (-1) (-1) = false) (hi : ways.length ≤ i) :
    ∀ w, bad (pr a b w).1 (pr a b w).2 = false := by
  intro w
  rcases ways_reach h hna hnb hnm w.length w rfl (fun q hq => by rw [List.getElem?_eq_none (by omega)] at hq; cases hq) with e | ⟨q, hq, e, hle⟩
  · rw [e]; exact hd
  · obtain ⟨k, hk⟩ := List.getElem?_of_mem hq
    rw [← e]
    exact h.good k q hk (.inl (by have := (List.getElem?_eq_some_iff.1 hk).1; omega))
end
/-- The least row of which D holds, if there is one. -/
def LeastRow (D : Row → Prop) (w : Row) : Prop := D w ∧ ∀ v, slt v w → ¬ D v
theorem leastRow_one {D : Row → Prop} {u v : Row} (hu : LeastRow D u) (hv : LeastRow D v) : u = v := by
  rcases slt_tri u v with h | h | h
  · exact absurd hu.1 (hv.2 u h)
  · exact h
  · exact absurd hv.1 (hu.2 v h)
open Classical in
noncomputable def theRow (D : Row → Prop) : Row := if h : ∃ w, LeastRow D w then h.choose else []
theorem theRow_eq {D : Row → Prop} {w : Row} (h : LeastRow D w) : theRow D = w := by
  have hx : ∃ w, LeastRow D w := ⟨w, h⟩
  unfold theRow
  rw [dif_pos hx]
  exact leastRow_one hx.choose_spec h
theorem theRow_none {D : Row → Prop} (h : ∀ w, ¬ D w) : theRow D = [] := by
  unfold theRow
  rw [dif_neg (fun ⟨w, hw⟩ => h w hw.1)]
end Go.Proofs.D
